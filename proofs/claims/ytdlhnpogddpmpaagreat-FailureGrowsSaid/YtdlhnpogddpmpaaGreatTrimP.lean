/-
  The program's Trim.
  Conditions: as each theorem states.
-/
import Derived.Test.YtdlhnpogddpmpaaGreatTrimL
import Derived.Test.YtdlhnpogddpmpaaGreatReachA
namespace Go.Proofs.YtdlhnpogddpmpaaGreat
open Go.RowKit
attribute [local go_sem] Oper.semAt_some

/-- The i-th reachable state has number i. -/
theorem reachP_at {A : Adv} : ∀ {n i : Nat}, i < (reachP A n).length → ∃ s : Nat, s < n ∧ reachB A s = true ∧ (reachP A n).getD i 0 = (s : Int) ∧ numR A s = i
  | 0, i, h => by simp [reachP] at h
  | n + 1, i, h => by
    cases hr : reachB A n with
    | false =>
      rw [reachP_no hr] at h ⊢
      obtain ⟨s, h1, h2⟩ := reachP_at h
      exact ⟨s, by omega, h2⟩
    | true =>
      rw [reachP_yes hr] at h ⊢
      have hlen : (reachP A n).length = numR A n := by simp [reachP, numR]
      by_cases hi : i < (reachP A n).length
      · obtain ⟨s, h1, h2, h3, h4⟩ := reachP_at hi
        refine ⟨s, by omega, h2, ?_, h4⟩
        rw [← h3, List.getD_eq_getElem?_getD, List.getElem?_append_left hi, List.getD_eq_getElem?_getD]
      · have e : i = (reachP A n).length := by simp at h; omega
        subst e
        refine ⟨n, by omega, hr, ?_, hlen.symm⟩
        rw [List.getD_eq_getElem?_getD, List.getElem?_append_right (Nat.le_refl _)]
        simp
/-- The numbers of the first i reachable states. -/
noncomputable def nents (A : Adv) (i : Nat) : List (Int × Value) := ((reachP A A.L).take i).map fun x => (x, Value.int .i64 (numR A x.toNat))
theorem nents_succ {A : Adv} {i s : Nat} (hi : i < (reachP A A.L).length) (hs : (reachP A A.L).getD i 0 = (s : Int)) (hn : numR A s = i) : nents A (i + 1) = nents A i ++ [((s : Int), .int .i64 i)] := by
  unfold nents
  rw [List.take_succ_eq_append_getElem hi, List.map_append, List.map_singleton]
  have e : (reachP A A.L)[i] = (s : Int) := by rw [← hs]; exact (getElem_getD' hi).symm
  rw [e, Int.toNat_natCast, hn]
theorem ilook_map (h : Int → Value) (r : Int) : ∀ l : List Int, ilook (l.map fun x => (x, h x)) r = if r ∈ l then some (h r) else none
  | [] => by simp [ilook]
  | x :: l => by
    simp only [List.map_cons, ilook, List.mem_cons]
    by_cases e : r = x
    · subst e; simp
    · rw [if_neg e, ilook_map h r l]; simp [e]
theorem nents_none {A : Adv} {i s : Nat} (hi : i < (reachP A A.L).length) (_hs : (reachP A A.L).getD i 0 = (s : Int)) (hn : numR A s = i) : ilook (nents A i) (s : Int) = none := by
  unfold nents
  rw [ilook_map, if_neg]
  intro hm
  obtain ⟨j, hj, he⟩ := List.getElem_of_mem hm
  rw [List.length_take] at hj
  rw [List.getElem_take] at he
  obtain ⟨s', _, _, h3, h4⟩ := reachP_at (A := A) (n := A.L) (i := j) (by omega)
  rw [getElem_getD' (show j < (reachP A A.L).length by omega), he] at h3
  have : s = s' := by omega
  subst this
  omega
theorem nents_look {A : Adv} {s : Nat} (hs : s < A.L) (hr : reachB A s = true) : ilook (nents A (reachP A A.L).length) (s : Int) = some (.int .i64 (numR A s)) := by
  unfold nents
  rw [ilook_map, List.take_length, if_pos (reachP_has hs hr), Int.toNat_natCast]
theorem trimSt_map (A : Adv) (i : Nat) : ((reachP A A.L).take i).map (fun x => (A.st.getD x.toNat []).map (trimMv A)) = (trimSt A A.L).take i := by
  unfold trimSt reachP
  rw [← List.map_take, ← List.map_take, List.map_map]
  rfl
theorem trimSt_take_succ {A : Adv} {i s : Nat} (hi : i < (reachP A A.L).length) (hs : (reachP A A.L).getD i 0 = (s : Int)) : (trimSt A A.L).take (i + 1) = (trimSt A A.L).take i ++ [(A.st.getD s []).map (trimMv A)] := by
  rw [← trimSt_map, ← trimSt_map, List.take_succ_eq_append_getElem hi, List.map_append, List.map_singleton]
  have e : (reachP A A.L)[i] = (s : Int) := by rw [← hs]; exact (getElem_getD' hi).symm
  rw [e, Int.toNat_natCast]

set_option maxRecDepth 8000 in
set_option maxHeartbeats 4000000 in
theorem ptrim_any (A : Adv) (v : Value) (w : World) (hA : AdvRep w v A) (hM : movesN A ≤ 4611686018427387904) :
    Calls Tryz.prog 19 #[v] w (RetV2 (AdvOut w (trimS A).1) (trimS A).2 w) := by
  have HC := hide (fun W (hE : Ext w W) => check_any A v W (hA.ext hE) hM)
  have HX := hide (fun W (hE : Ext w W) h0 => reached_any A v W (hA.ext hE) h0)
  obtain ⟨p, c, rfl, hc, hl, hat⟩ := hA.all_
  have HAT := hide hat
  clear hA hat
  have hE0 : Ext w ((w.alloc (.cells #[.int .i64 A.n, .slice p A.L c] 26)).alloc (.cells #[.int .i64 0, .slice none 0 0] 26)) := ((Ext.refl w).alloc _).alloc _
  have hbk : ∀ w1, Ext ((w.alloc (.cells #[.int .i64 A.n, .slice p A.L c] 26)).alloc (.cells #[.int .i64 0, .slice none 0 0] 26)) w1 → w1.heap[w.heap.size + 1]? = some (.cells #[.int .i64 0, .slice none 0 0] 26 (0, 0)) := fun w1 hE => by
    rw [hE.b.block _ (by simp)]
    have := heap_alloc_new (w.alloc (.cells #[.int .i64 A.n, .slice p A.L c] 26)) (.cells #[.int .i64 0, .slice none 0 0] 26)
    rwa [World.size_alloc] at this
  have HBK := hide hbk
  clear hbk
  generalize hres : trimS A = res
  obtain ⟨⟨rn, rst⟩, r2⟩ := res
  unfold trimS at hres
  by_cases h1 : achk A = 0
  · rw [if_pos h1] at hres
    have hHC := HC.out
    rw [h1] at hHC
    have HC := hide hHC
    have HX := hide (fun W hE => HX.out W hE h1)
    injection hres with hr1 hr2
    injection hr1 with hr3 hr4
    subst hr3 hr4 hr2
    obtain ⟨hn1, hn2, hL1, hL2, hmv, hst, _⟩ := achk_zero h1
    have HS := hide (sound_of hst)
    have HMN := hide hmv
    clear hHC h1 hn1 hn2 hmv hst
    have hmm := @run_makeMap Tryz.prog
    go_enter Tryz.func19, Tryz.ntmps19
    go_wp2_with fail
    refine (HC.out _ hE0).mono ?_
    rintro e w1 ⟨rfl, hE⟩
    have hEw := hE0.trans hE
    have HB1 := hide (HBK.out _ hE)
    have ha1 : w1.cell? ⟨w.heap.size, 1, none⟩ = some (.slice p A.L c) := by
      rw [hE.cell (p := ⟨w.heap.size, 1, none⟩) (by simp; omega), cell_alloc_old _ (by simp), cell_new]; rfl
    have ha0 : w1.cell? ⟨w.heap.size, 0, none⟩ = some (.int .i64 A.n) := by
      rw [hE.cell (p := ⟨w.heap.size, 0, none⟩) (by simp; omega), cell_alloc_old _ (by simp), cell_new]; rfl
    have hz0 : w.heap.size + 2 ≤ w1.heap.size := by have := hE.size; simp at this; omega
    clear hE
    have hz00 : w.heap.size < w1.heap.size := by omega
    go_wp2_with fail
    obtain ⟨w2, hw2⟩ : ∃ w2, w1.alloc (.map #[] 0) = w2 := ⟨_, rfl⟩
    have hE2 : Ext w1 w2 := by rw [← hw2]; exact (Ext.refl _).alloc _
    have hm2 : IMap w2 w1.heap.size [] := by rw [← hw2]; exact IMap.new _
    have hz2 : w1.heap.size < w2.heap.size := by rw [← hw2]; simp
    rw [hw2]
    clear hw2
    have hEw2 := hEw.trans hE2
    refine (HX.out _ hEw2).mono ?_
    rintro e w3 ⟨u, rfl, hown, hE3⟩
    obtain ⟨q, d, rfl, hd, hlq, hqat⟩ := (hown.row (by have := reachP_len A A.L; omega)).int_all
    have HQ := hide hqat
    have hEw3 := hEw2.trans hE3
    have hm3 : IMap w3 w1.heap.size [] := hm2.of_block (hE3.b.block _ hz2)
    have hz3 : w1.heap.size < w3.heap.size := by have := hE3.size; omega
    have ha13 := ((hE2.trans hE3).cell (p := ⟨w.heap.size, 1, none⟩) (by show w.heap.size < _; omega)).trans ha1
    have ha03 := ((hE2.trans hE3).cell (p := ⟨w.heap.size, 0, none⟩) (by show w.heap.size < _; omega)).trans ha0
    have hb3 := ((hE2.trans hE3).b.block _ (show w.heap.size + 1 < w1.heap.size by omega)).trans HB1.out
    have HB3 := hide hb3
    have hlenl := reachP_len A A.L
    have HLL : Hid ((trimSt A A.L).length = (reachP A A.L).length) := by show _ = _; unfold trimSt reachP; simp
    have HQB : Hid (∀ b o, q = some ⟨b, o, none⟩ → w1.heap.size < b) := fun b o h => Nat.lt_of_lt_of_le hz2 (hown.block_ge b (by rw [h]; rfl))
    clear hown hqat hE2 hE3 hm2 hEw2 hz2 ha1 ha0 hb3 HX HC HB1 hz00 hlq
    clear w2
    go_wp2_with fail
    go_loopw [26] (fun x wr => ∃ i : Nat, i ≤ (reachP A A.L).length ∧ x = .int .i64 i ∧ Ext w wr ∧ (∀ k : Nat, k < w3.heap.size → k ≠ w1.heap.size → wr.heap[k]? = w3.heap[k]?) ∧ w3.heap.size ≤ wr.heap.size ∧ IMap wr w1.heap.size (nents A i)) (fun x _ => (reachP A A.L).length - (intOf x).toNat)
    case atStart => exact ⟨0, by omega, rfl, hEw3, fun _ _ _ => rfl, Nat.le_refl _, by simpa [nents] using hm3⟩
    case round =>
      obtain ⟨i, hi, rfl, hEr, hkeep, hzr, hm⟩ := hrel
      have HK := hide hkeep
      have HM := hide hm
      clear hkeep hm
      by_cases hlt : i < (reachP A A.L).length
      · obtain ⟨b, o, rfl, hb, hq⟩ := HQ.out (by omega)
        obtain ⟨s, hsL, hsR, hs, hnum⟩ := reachP_at hlt
        have hqi := hq i hlt w3 (Ext.refl _)
        have hbg := HQB.out b o rfl
        have hci : wr.cell? ⟨b, o + i, none⟩ = some (.int .i64 s) := by
          rw [World.cell?_of_block (w := w3) (a := ⟨b, o + i, none⟩) (HK.out b hb (by omega)), hqi, hs]
        obtain ⟨ob, hrun, hmap⟩ := put_int 76 3 under_ii s (.int .i64 i) wr w1.heap.size (nents A i) HM.out (nents_none hlt hs hnum)
        have hns := nents_succ hlt hs hnum
        rw [← hns] at hmap
        have HMAP := hide hmap
        clear hq hqi hmap hns hs hnum
        go_wp2_with fail
        refine ⟨⟨i + 1, by omega, by simp, hEr.putObj (by omega) _, fun k hk hne => (World.putObj_heap_other (by omega)).trans (HK.out k hk hne), by rw [putsize]; exact hzr, HMAP.out⟩, by simp [intOf]; omega⟩
      · obtain rfl : i = (reachP A A.L).length := by omega
        have hbk := HK.out
        have ha1r := (World.cell?_of_block (w := w3) (a := ⟨w.heap.size, 1, none⟩) (hbk w.heap.size (by omega) (by omega))).trans ha13
        have ha0r := (World.cell?_of_block (w := w3) (a := ⟨w.heap.size, 0, none⟩) (hbk w.heap.size (by omega) (by omega))).trans ha03
        have hbr := (hbk _ (by omega) (by omega)).trans HB3.out
        have HBB := hide hbr
        have HLK : Hid (∀ W, Ext wr W → ∀ s : Nat, s < A.L → reachB A s = true → (Instr.lookup 76 (.map (some w1.heap.size)) (.int .i64 s) false).run Tryz.prog W = .ok (.int .i64 (numR A s)) W) := fun W hE s hs hr => by
          have h1 := look_int 76 3 (.int .i64 0) under_ii zero_i s W _ _ (HM.out.of_block (hE.b.block _ HM.out.lt))
          rw [nents_look hs hr] at h1
          exact h1
        have HQR : Hid (0 < (reachP A A.L).length → ∃ b o, q = some ⟨b, o, none⟩ ∧ b < wr.heap.size ∧ ∀ j, j < (reachP A A.L).length → ∀ W, Ext wr W → W.cell? ⟨b, o + j, none⟩ = some (.int .i64 ((reachP A A.L).getD j 0))) := fun h => by
          obtain ⟨b, o, hq, hb, hc⟩ := HQ.out h
          have hbg := HQB.out b o hq
          refine ⟨b, o, hq, by omega, fun j hj W hE => ?_⟩
          rw [hE.cell (p := ⟨b, o + j, none⟩) (by show b < _; omega), World.cell?_of_block (w := w3) (a := ⟨b, o + j, none⟩) (hbk b hb (by omega))]
          exact hc j hj w3 (Ext.refl _)
        have hzw : w.heap.size < wr.heap.size := by omega
        clear hbk hbr HK HM HQ HQB ha13 ha03 HB3 hm3 hi hlt
        go_wp2_with fail
        obtain ⟨w8, hw8⟩ : ∃ w8, wr.alloc (.cells #[.int .i64 A.n, .slice none 0 0] 26) = w8 := ⟨_, rfl⟩
        have hE8 : Ext wr w8 := by rw [← hw8]; exact (Ext.refl _).alloc _
        have h8 : w8.heap[wr.heap.size]? = some (.cells #[.int .i64 A.n, .slice none 0 0] 26 (0, 0)) := by rw [← hw8]; exact heap_alloc_new _ _
        rw [hw8]
        clear hw8
        obtain ⟨wa, rfl⟩ : ∃ wa : World, wa = wr := ⟨_, rfl⟩
        go_loopw [40] (fun x V => ∃ (i : Nat) (q : Value), i ≤ (reachP A A.L).length ∧ x = .int .i64 i ∧ Ext wa V ∧ V.heap[wa.heap.size]? = some (.cells #[.int .i64 A.n, q] 26 (0, 0)) ∧ Coll 54 56 Mv.cells 8 V wa.heap.size q ((trimSt A A.L).take i)) (fun x _ => (reachP A A.L).length - (intOf x).toNat)
        case atStart => exact ⟨0, .slice none 0 0, by omega, rfl, hE8, h8, Coll.nil _ _⟩
        case round =>
          clear hE8 h8 w8
          obtain ⟨i, q8, hi, rfl, hE, h8, hC⟩ := hrel
          obtain ⟨ts, hts⟩ : ∃ ts, (trimSt A A.L).take i = ts := ⟨_, rfl⟩
          have HTT := hide hts
          rw [hts] at hC
          clear hts
          have HC := hide hC
          have HE8 := hide h8
          clear hC h8
          by_cases hlt : i < (reachP A A.L).length
          · obtain ⟨bq, oq, rfl, hbq, hq⟩ := HQR.out (by omega)
            obtain ⟨s, hsL, hsR, hs, hnum⟩ := reachP_at hlt
            have hci := hq i hlt wr hE
            rw [hs] at hci
            have hts := trimSt_take_succ hlt hs
            rw [HTT.out] at hts
            have HTS := hide hts
            clear hts
            have HSR := hide hsR
            obtain ⟨b, o, rfl, hb, hat⟩ := HAT.out (by omega)
            obtain ⟨qs, ds, hcs, _, hls, _, hmv⟩ := hat s hsL
            have HMV := hide hmv
            clear hat hmv hq hs hnum hsR
            have hEw2 := hEr.trans hE
            have ha1o := (hE.cell (p := ⟨w.heap.size, 1, none⟩) (by show w.heap.size < _; omega)).trans ha1r
            have hcso := hcs wr hEw2
            have hsd : decide (s < A.L) = true := decide_eq_true hsL
            go_wp2_with fail
            obtain ⟨wo, rfl⟩ : ∃ wo : World, wo = wr := ⟨_, rfl⟩
            go_loopw [12, 50] (fun y x V => ∃ k : Nat, k ≤ A.len s ∧ x = .int .i64 k ∧ Own Mv.cells 8 V wo.heap.size 56 y (((A.st.getD s []).take k).map (trimMv A)) ∧ Ext wo V) (fun _ x _ => A.len s - (intOf x).toNat)
            case atStart => exact ⟨0, by omega, rfl, Own.nil _ _ _ (fun _ => rfl), Ext.refl _⟩
            case round =>
              obtain ⟨k, hk, rfl, hown, hE3⟩ := hrel
              have HOWN := hide hown
              clear hown
              have hzr3 := hE3.size
              have hEw3 := hEw2.trans hE3
              by_cases hli : k < A.len s
              · obtain ⟨b4, o4, rfl, hb4, hmv⟩ := HMV.out (by omega)
                obtain ⟨x0, x1, x2, x3, x4, x5, x6, x7⟩ := hmv k hli
                obtain ⟨ht0, ht1, _, _⟩ := HS.out s hsL k hli
                have h0 := x0 _ hEw3
                have h1 := x1 _ hEw3
                have h2 := x2 _ hEw3
                have h3 := x3 _ hEw3
                have h4 := x4 _ hEw3
                have h5 := x5 _ hEw3
                have h6 := x6 _ hEw3
                have h7 := x7 _ hEw3
                have HSN := hide (trim_snoc A s k hli)
                have hrt : reachB A (A.mv s k).to.toNat = true := reachB_iff.2 (.step (reachB_iff.1 HSR.out) hsL hli)
                obtain ⟨⟨⟨⟨n1, a1, b1, c1, d1, e1⟩, f1⟩, t1⟩, hm⟩ : ∃ m, A.mv s k = m := ⟨_, rfl⟩
                rw [hm] at h0 h1 h2 h3 h4 h5 h6 h7 ht0 ht1 HSN hrt
                dsimp only at h0 h1 h2 h3 h4 h5 h6 h7 ht0 ht1
                obtain ⟨tn, rfl⟩ := Int.eq_ofNat_of_zero_le ht0
                have htm : trimMv A ⟨⟨⟨n1, a1, b1, c1, d1, e1⟩, f1⟩, tn⟩ = ⟨⟨⟨n1, a1, b1, c1, d1, e1⟩, f1⟩, numR A tn⟩ := rfl
                rw [htm] at HSN
                have hlk : ∀ W, Ext wr W → (Instr.lookup 76 (.map (some w1.heap.size)) (.int .i64 tn) false).run Tryz.prog W = .ok (.int .i64 (numR A tn)) W := fun W hEW => HLK.out W ((hE.trans hE3).trans hEW) tn (by omega) hrt
                have hll : (((A.st.getD s []).take k).map (trimMv A)).length ≤ 4096 := by
                  have h1 := len_le_moves A hsL
                  have h2 := HMN.out
                  rw [List.length_map, List.length_take]; omega
                have HLL2 := hide hll
                generalize numR A tn = nr at hlk HSN
                have HX3 : Hid (∀ (W : World) j u, (Mv.cells ⟨⟨⟨n1, a1, b1, c1, d1, e1⟩, f1⟩, nr⟩)[j]? = some u → (W.alloc (.cells #[.int .i64 n1, .int .i64 a1, .int .i64 b1, .int .i64 c1, .int .i64 d1, .int .i64 e1, .int .i64 f1, .int .i64 nr] 56)).cell? ⟨W.heap.size, j, none⟩ = some u) := fun W j u hj => by rw [cell_new, List.getElem?_toArray]; exact hj
                have hO5 := hide ((HOWN.out.alloc (.cells #[.int .i64 n1, .int .i64 a1, .int .i64 b1, .int .i64 c1, .int .i64 d1, .int .i64 e1, .int .i64 f1, .int .i64 tn] 56)).alloc (.cells #[.int .i64 n1, .int .i64 a1, .int .i64 b1, .int .i64 c1, .int .i64 d1, .int .i64 e1, .int .i64 f1, .int .i64 nr] 56))
                have hx5 := HX3.out (wr.alloc (.cells #[.int .i64 n1, .int .i64 a1, .int .i64 b1, .int .i64 c1, .int .i64 d1, .int .i64 e1, .int .i64 f1, .int .i64 tn] 56))
                rw [World.size_alloc] at hx5
                have hX5 := hide hx5
                clear x0 x1 x2 x3 x4 x5 x6 x7 hm hmv htm hll hrt HX3 hx5
                go_wp2_with (at_builtin; refine wpList_append1 rfl (.tmp 54) (.tmp 62) 54 rfl wo.heap.size 56 (Mv.v default) 8 64 Tryz.underlying54 move_info rfl (by decide) u12 (((A.st.getD s []).take k).map (trimMv A)) ⟨⟨⟨n1, a1, b1, c1, d1, e1⟩, f1⟩, nr⟩ (wr.heap.size + 1) rfl hO5.out rfl hX5.out (mv_one _) (by have := HLL2.out; omega) (by decide) (by simp; omega) ?_; intro v' W4 hO4 hg4 hf4)
                have hO4' := hO4
                rw [← HSN.out] at hO4'
                have hE4 := (hE3.alloc (.cells #[.int .i64 n1, .int .i64 a1, .int .i64 b1, .int .i64 c1, .int .i64 d1, .int .i64 e1, .int .i64 f1, .int .i64 tn] 56)).appended (HOWN.out.alloc _) hg4
                have HO4 := hide hO4'
                clear hO4 hO4' hg4 hf4
                go_wp2_with fail
                exact ⟨⟨k + 1, by omega, by simp, HO4.out, hE4⟩, by simp [intOf]; omega⟩
              · obtain rfl : k = A.len s := by omega
                have htk : (A.st.getD s []).take (A.len s) = A.st.getD s [] := List.take_length
                have hown := HOWN.out
                rw [htk] at hown
                have hll : ((A.st.getD s []).map (trimMv A)).length ≤ 4096 := by
                  have h1 := len_le_moves A hsL
                  have h2 := HMN.out
                  rw [List.length_map]; exact Nat.le_trans h1 h2
                obtain ⟨ms, hms⟩ : ∃ ms, (A.st.getD s []).map (trimMv A) = ms := ⟨_, rfl⟩
                rw [hms] at hown hll
                have HMS := hide hms
                clear hms
                have hRE := hown.rowE (by omega)
                have hC := HC.out.ext hE3
                obtain ⟨qy, cy, rfl, _⟩ := hRE.1
                obtain ⟨qq, cq, rfl⟩ := hC.slice
                have h8r : wr.heap[wa.heap.size]? = some (.cells #[.int .i64 A.n, .slice qq ts.length cq] 26 (0, 0)) := (hE3.b.block _ (lt_of_heap HE8.out)).trans HE8.out
                have h81 : wr.cell? ⟨wa.heap.size, 1, none⟩ = some (.slice qq ts.length cq) := by rw [cell_of_row _ _ _ _ _ _ h8r]; rfl
                have HH8 := hide h8r
                have HRE := hide hRE
                have HC5 := hide (hC.ext ((Ext.refl wr).alloc (.cells #[.slice qy ms.length cy] 54)))
                have HRE5 := hide (hRE.ext ((Ext.refl wr).alloc (.cells #[.slice qy ms.length cy] 54)))
                have HX5 := hide (cell_new1 wr (.slice qy ms.length cy) 54)
                have hkl : ts.length ≤ A.L := by rw [← HTT.out]; exact Nat.le_trans (List.length_take_le' _ _) (by have := HLL.out; omega)
                clear HC HOWN hown htk hll hRE hC h8r
                have H8K : Hid (∀ W5, (wr.alloc (.cells #[.slice qy ms.length cy] 54)).grownBy W5 (Value.slice qq ts.length cq).ownBlock → W5.heap[wa.heap.size]? = some (.cells #[.int .i64 A.n, .slice qq ts.length cq] 26 (0, 0))) := fun W5 hg5 => by
                  have h1 : (wr.alloc (.cells #[.slice qy ms.length cy] 54)).heap[wa.heap.size]? = _ := (Below.heap_alloc _ _ _ (lt_of_heap HH8.out)).trans HH8.out
                  refine (hg5.block _ (lt_of_heap h1) (fun he => ?_)).trans h1
                  obtain ⟨cur, fr, h'⟩ := HC5.out.typed _ he.symm
                  rw [h1] at h'
                  injection h' with h'
                  injection h' with _ h'
                  exact absurd h' (by decide)
                have hwaw : wa.heap.size ≤ wr.heap.size := by have := hE.size; omega
                go_wp2_with (at_builtin; refine wpList_push rfl (.tmp 66) (.tmp 68) 24 rfl wa.heap.size 54 56 8 (by decide) Tryz.underlying24 mslice_info _ ts _ ms wr.heap.size rfl HC5.out rfl HX5.out HRE5.out (by omega) (by simp; omega) ?_; intro v' W5 hC5 hg5 hf5; obtain ⟨g', c', rfl, _⟩ := hf5; have hk5 := H8K.out _ hg5; have h5c := cell_of_row W5 wa.heap.size 1 _ _ _ hk5; have h5f := frozen_row hk5 1; have HK5 := hide hk5; have HC6 := hide hC5; have HG5 := hide hg5; clear hC5 hg5 hk5)
                have hC6 := HC6.out.setOther HK5.out (by decide) (by decide) 1 (.slice (some ⟨g', 0, none⟩) (ts.length + 1) c')
                have hy := HTS.out
                rw [HMS.out] at hy
                rw [← hy] at hC6
                have hE5 : Ext wa W5 := ((hE.trans hE3).alloc (.cells #[.slice qy ms.length cy] 54)).grown HG5.out HC5.out.block_ge
                refine ⟨⟨i + 1, _, by omega, by simp, hE5.setCell (Nat.le_refl _) _, ?_, hC6⟩, by simp [intOf]; omega⟩
                rw [row_set HK5.out]; rfl
          · obtain rfl : i = (reachP A A.L).length := by omega
            have htl : (trimSt A A.L).take (reachP A A.L).length = trimSt A A.L := by rw [← HLL.out]; exact List.take_length
            have hCe := HC.out
            rw [← HTT.out, htl] at hCe
            have HC := hide hCe
            clear htl hCe
            obtain ⟨qq, cq, rfl⟩ := HC.out.slice
            have h80 : wr.cell? ⟨wa.heap.size, 0, none⟩ = some (.int .i64 A.n) := by rw [cell_of_row _ _ _ _ _ _ HE8.out]; rfl
            have h81 : wr.cell? ⟨wa.heap.size, 1, none⟩ = some (.slice qq (trimSt A A.L).length cq) := by rw [cell_of_row _ _ _ _ _ _ HE8.out]; rfl
            have hb2 := (hE.b.block _ (lt_of_heap HBB.out)).trans HBB.out
            have hb20 : wr.cell? ⟨w.heap.size + 1, 0, none⟩ = some (.int .i64 0) := by rw [cell_of_row _ _ _ _ _ _ hb2]; rfl
            have hb21 : wr.cell? ⟨w.heap.size + 1, 1, none⟩ = some (.slice none 0 0) := by rw [cell_of_row _ _ _ _ _ _ hb2]; rfl
            have hb2f := frozen_row hb2
            have hb2f0 := hb2f 0
            have hb2f1 := hb2f 1
            have HB2 := hide hb2
            have hEE := hEr.trans hE
            have hwaw : w.heap.size ≤ wa.heap.size := hEr.size
            clear hb2 hb2f
            go_wp2_with fail
            have c0 : ((wr.setCell ⟨w.heap.size + 1, 0, none⟩ (.int .i64 A.n)).setCell ⟨w.heap.size + 1, 1, none⟩ (.slice qq (trimSt A A.L).length cq)).cell? ⟨w.heap.size + 1, 0, none⟩ = some (.int .i64 A.n) := by
              rw [cell_of_row _ _ _ _ _ _ (row_set (row_set HB2.out 0 _) 1 _)]; rfl
            have c1 : ((wr.setCell ⟨w.heap.size + 1, 0, none⟩ (.int .i64 A.n)).setCell ⟨w.heap.size + 1, 1, none⟩ (.slice qq (trimSt A A.L).length cq)).cell? ⟨w.heap.size + 1, 1, none⟩ = some (.slice qq (trimSt A A.L).length cq) := by
              rw [cell_of_row _ _ _ _ _ _ (row_set (row_set HB2.out 0 _) 1 _)]; rfl
            have hC9 := ((HC.out.mono hwaw).setOther HB2.out (by decide) (by decide) 0 (.int .i64 A.n)).setOther (row_set HB2.out 0 _) (by decide) (by decide) 1 (.slice qq (trimSt A A.L).length cq)
            have hE9 := (hEE.setCell (p := ⟨w.heap.size + 1, 0, none⟩) (by simp) (.int .i64 A.n)).setCell (p := ⟨w.heap.size + 1, 1, none⟩) (by simp) (.slice qq (trimSt A A.L).length cq)
            generalize (wr.setCell ⟨w.heap.size + 1, 0, none⟩ (.int .i64 A.n)).setCell ⟨w.heap.size + 1, 1, none⟩ (.slice qq (trimSt A A.L).length cq) = W9 at c0 c1 hC9 hE9 ⊢
            exact bodyPost_ret (v := .tuple #[.agg #[.int .i64 A.n, .slice qq (trimSt A A.L).length cq], .int .i64 0]) (by simp [results, Tryz.f19, go_sem, c0, c1]) rfl ⟨_, rfl, ⟨_, rfl, hC9⟩, hE9⟩
  · rw [if_neg h1] at hres
    have hb : (achk A != 0) = true := by simp [h1]
    injection hres with hr1 hr2
    injection hr1 with hr3 hr4
    subst hr3 hr4
    clear h1 HX
    generalize achk A = ck at *
    subst hr2
    go_enter Tryz.func19, Tryz.ntmps19
    go_wp2_with fail
    refine (HC.out _ hE0).mono ?_
    rintro e w1 ⟨rfl, hE⟩
    have hEw := hE0.trans hE
    have hb2 := HBK.out _ hE
    have HB2 := hide hb2
    have hb20 : w1.cell? ⟨w.heap.size + 1, 0, none⟩ = some (.int .i64 0) := by rw [cell_of_row _ _ _ _ _ _ hb2]; rfl
    have hb21 : w1.cell? ⟨w.heap.size + 1, 1, none⟩ = some (.slice none 0 0) := by rw [cell_of_row _ _ _ _ _ _ hb2]; rfl
    have hb2f0 := frozen_row hb2 0
    have hb2f1 := frozen_row hb2 1
    clear hb2 hE
    go_wp2_with fail
    have c0 : ((w1.setCell ⟨w.heap.size + 1, 0, none⟩ (.int .i64 0)).setCell ⟨w.heap.size + 1, 1, none⟩ (.slice none 0 0)).cell? ⟨w.heap.size + 1, 0, none⟩ = some (.int .i64 0) := by
      rw [cell_of_row _ _ _ _ _ _ (row_set (row_set HB2.out 0 _) 1 _)]; rfl
    have c1 : ((w1.setCell ⟨w.heap.size + 1, 0, none⟩ (.int .i64 0)).setCell ⟨w.heap.size + 1, 1, none⟩ (.slice none 0 0)).cell? ⟨w.heap.size + 1, 1, none⟩ = some (.slice none 0 0) := by
      rw [cell_of_row _ _ _ _ _ _ (row_set (row_set HB2.out 0 _) 1 _)]; rfl
    have hE9 := (hEw.setCell (p := ⟨w.heap.size + 1, 0, none⟩) (by simp) (.int .i64 0)).setCell (p := ⟨w.heap.size + 1, 1, none⟩) (by simp) (.slice none 0 0)
    generalize (w1.setCell ⟨w.heap.size + 1, 0, none⟩ (.int .i64 0)).setCell ⟨w.heap.size + 1, 1, none⟩ (.slice none 0 0) = W9 at c0 c1 hE9 ⊢
    exact bodyPost_ret (v := .tuple #[.agg #[.int .i64 0, .slice none 0 0], .int .i64 ck]) (by simp [results, Tryz.f19, go_sem, c0, c1]) rfl ⟨_, rfl, ⟨_, rfl, Coll.nil _ _⟩, hE9⟩
end Go.Proofs.YtdlhnpogddpmpaaGreat
