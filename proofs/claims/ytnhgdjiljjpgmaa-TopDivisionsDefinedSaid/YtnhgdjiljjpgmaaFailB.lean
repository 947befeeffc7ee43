/-
  The program's layer 17 (failure): build.
  Conditions: as each theorem states.
-/
import Derived.Test.YtnhgdjiljjpgmaaFailM
import Derived.Test.YtnhgdjiljjpgmaaMarks
import Derived.Deep.LoopGhost
import Derived.Deep.CutRange
import Derived.Sort.CutIn
namespace Go.Proofs.Ytnhgdjiljjpgmaa
open Go.RowKit
attribute [local go_sem] Oper.semAt_some

theorem step_info : (Try.prog.info? 71).map (fun i => (i.zero, i.size, i.bytes)) = some (some (stpV default), 8, 64) := by kernel_rfl
/-- The frame at the head of the loop over the states. -/
def bF (n fs : Nat) (fi fb : Array Value) (r4 r5 ob cb mb : Nat) (uo : Value) (i : Nat) (us : Nat → Value) (ds : List Deferred) : Act := { tmps := #[.int .i64 n, .func (.func fs) fi fb, us 2, us 3, .pointer (some ⟨r4, 0, none⟩), .pointer (some ⟨r5, 0, none⟩), .pointer (some ⟨ob, 0, none⟩), .map (some mb), uo, .pointer (some ⟨cb, 0, none⟩), .int .i64 i, us 11, us 12, us 13, us 14, us 15, us 16, us 17, us 18, us 19, us 20, us 21, us 22, us 23, us 24, us 25, us 26, us 27, us 28, us 29, us 30, us 31, us 32, us 33, us 34, us 35, us 36, us 37, us 38, us 39, us 40, us 41, us 42, us 43, us 44, us 45, us 46, us 47, us 48, us 49, us 50, us 51, us 52, us 53, us 54, us 55, us 56, us 57, us 58, us 59, us 60, us 61, us 62, us 63, us 64, us 65, us 66, us 67, us 68, us 69, us 70, us 71, us 72, us 73, us 74, us 75, us 76, us 77, us 78, us 79, us 80, us 81, us 82, us 83, us 84, us 85, us 86, us 87, us 88, us 89], defers := ds }
/-- What holds at the head of the loop over the states. -/
def BI (w : World) (n fs : Nat) (fi fb : Array Value) (E : Nat → List Stp17) (K : Nat → Prop) (r4 r5 ob cb mb : Nat) (k : Nat) (a : Act) (W : World) : Prop :=
  ∃ (ds : List Deferred) (us : Nat → Value) (uo sv : Value) (i cnt : Nat) (order : List Nat) (st : List (List Mv)), a = bF n fs fi fb r4 r5 ob cb mb uo i us ds ∧ k = 64 - i ∧ BF w W n r4 r5 ob cb mb uo sv order st ∧ KBox W cb (.int .i64 cnt) ∧ BL E K n i cnt order st ∧ Marks w.heap.size W W.heap.size ds
theorem BI.intro {w : World} {n fs : Nat} {fi fb : Array Value} {E : Nat → List Stp17} {K : Nat → Prop} {r4 r5 ob cb mb k : Nat} {a : Act} {W : World} {ds : List Deferred} {uo sv : Value} {i cnt : Nat} {order : List Nat} {st : List (List Mv)}
    (h1 : a = bF n fs fi fb r4 r5 ob cb mb uo i (fun i => a.tmps.getD i undef) ds) (h2 : k = 64 - i) (h3 : BF w W n r4 r5 ob cb mb uo sv order st) (h4 : KBox W cb (.int .i64 cnt)) (h5 : BL E K n i cnt order st) (h6 : Marks w.heap.size W W.heap.size ds) : BI w n fs fi fb E K r4 r5 ob cb mb k a W :=
  ⟨ds, _, uo, sv, i, cnt, order, st, h1, h2, h3, h4, h5, h6⟩
set_option maxRecDepth 16000 in
set_option maxHeartbeats 4000000 in
theorem pbuild_any {n fs : Nat} {fi fb : Array Value} {E : Nat → List Stp17} {K : Nat → Prop} (w : World) (H : BAsk w fs fi fb E K) :
    Calls Try.prog 38 #[.int .i64 n, .func (.func fs) fi fb] w fun e w' => ∃ v, e = .returned (.tuple #[v, .int .i64 (buildA (fun k => sortR (E k)) n).2]) ∧ AdvC w.heap.size w' v (buildA (fun k => sortR (E k)) n).1 ∧ Ext w w' := by
  have HH := hide H
  clear H
  have hmm := @run_makeMap Try.prog
  obtain ⟨Z, hZ⟩ : ∃ Z, w.heap.size = Z := ⟨_, rfl⟩
  have HZ := hide hZ
  clear hZ
  refine calls_of_wp_m Try.func38 rfl ?_
  simp only [Try.ntmps38, List.size_toArray, List.length_cons, List.length_nil, Nat.reduceAdd, Nat.reduceSub, Array.replicate_succ, Array.replicate_zero, List.push_toArray, List.append_toArray, List.nil_append, List.cons_append]
  go_wp2_with fail
  obtain ⟨W3, hW3⟩ : ∃ W3, ((w.alloc (.cells #[.int .i64 0, .slice none 0 0] 29)).alloc (.cells #[.int .i64 0] 30)).alloc (.cells #[.int .i64 n, .slice none 0 0] 29) = W3 := ⟨_, rfl⟩
  have hE3 : Ext w W3 := by rw [← hW3]; exact (((Ext.refl w).alloc _).alloc _).alloc _
  have hz3 : W3.heap.size = w.heap.size + 1 + 1 + 1 := by rw [← hW3]; simp
  have hb4 : W3.heap[w.heap.size]? = some (.cells #[.int .i64 0, .slice none 0 0] 29 (0, 0)) := by
    rw [← hW3, Below.heap_alloc _ _ _ (by simp; omega), Below.heap_alloc _ _ _ (by simp)]; exact heap_alloc_new _ _
  have hb5 : W3.heap[w.heap.size + 1]? = some (.cells #[.int .i64 0] 30 (0, 0)) := by
    rw [← hW3, Below.heap_alloc _ _ _ (by simp)]
    have := heap_alloc_new (w.alloc (.cells #[.int .i64 0, .slice none 0 0] 29)) (.cells #[.int .i64 0] 30)
    rwa [World.size_alloc] at this
  have hbo : W3.heap[w.heap.size + 1 + 1]? = some (.cells #[.int .i64 n, .slice none 0 0] 29 (0, 0)) := by
    rw [← hW3]
    have := heap_alloc_new ((w.alloc (.cells #[.int .i64 0, .slice none 0 0] 29)).alloc (.cells #[.int .i64 0] 30)) (.cells #[.int .i64 n, .slice none 0 0] 29)
    simpa only [World.size_alloc] using this
  rw [hW3, show w.heap.size + 1 + 1 + 1 = W3.heap.size from hz3.symm]
  clear hW3
  obtain ⟨mo, ⟨mes, mcl, hmo⟩, hput, hkm⟩ := (KM.new ienc W3).put ikey_ok (mt := 89) (et := 3) (fun W => by kernel_rfl) (0 : Int) (.int .i64 0)
  have hput : (Instr.mapUpdate 89 (.map (some W3.heap.size)) (.int .i64 0) (.int .i64 0)).run Try.prog (W3.alloc (.map #[] 0)) = .ok () ((W3.alloc (.map #[] 0)).putObj W3.heap.size mo) := hput
  obtain ⟨W4, hW4⟩ : ∃ W4, (W3.alloc (.map #[] 0)).putObj W3.heap.size mo = W4 := ⟨_, rfl⟩
  rw [hW4] at hput hkm
  have hE34 : Ext W3 W4 := by rw [← hW4]; exact ((Ext.refl _).alloc _).putObj (Nat.le_refl _) _
  have hz4 : W4.heap.size = W3.heap.size + 1 := by rw [← hW4]; simp
  have HKM := hide hkm
  have HB4 := hide (hE34.b.block _ (lt_of_heap hb4) |>.trans hb4)
  have HB5 := hide (hE34.b.block _ (lt_of_heap hb5) |>.trans hb5)
  have HBO := hide (hE34.b.block _ (lt_of_heap hbo) |>.trans hbo)
  have HE4 := hide (hE3.trans hE34)
  have HZ3 := hide hz3
  have HZ4 := hide hz4
  clear hkm hb4 hb5 hbo hE3 hE34 hW4 hz3 hz4
  rw [hput]
  clear hput
  go_wp2_with fail
  obtain ⟨W5, hW5⟩ : ∃ W5, (W4.alloc (.cells #[.int .i64 0] 3)).alloc (.cells #[.int .i64 0] 3) = W5 := ⟨_, rfl⟩
  have hE5 : Ext W4 W5 := by rw [← hW5]; exact ((Ext.refl _).alloc _).alloc _
  have hgb : W5.heap[W4.heap.size]? = some (.cells #[.int .i64 0] 3 (0, 0)) := by
    rw [← hW5, Below.heap_alloc _ _ _ (by simp)]; exact heap_alloc_new _ _
  have hcb : W5.heap[W4.heap.size + 1]? = some (.cells #[.int .i64 0] 3 (0, 0)) := by
    rw [← hW5]
    have := heap_alloc_new (W4.alloc (.cells #[.int .i64 0] 3)) (.cells #[.int .i64 0] 3)
    rwa [World.size_alloc] at this
  have hs4 := HZ4.out
  have hs3 := HZ3.out
  have HBF : Hid (BF w W5 n w.heap.size (w.heap.size + 1) (w.heap.size + 1 + 1) (W4.heap.size + 1) W3.heap.size (.slice (some ⟨W4.heap.size, 0, none⟩) 1 1) (.slice none 0 0) [0] []) := by
    refine ⟨HE4.out.trans hE5, (hE5.b.block _ (lt_of_heap HB4.out)).trans HB4.out, (hE5.b.block _ (lt_of_heap HB5.out)).trans HB5.out, (hE5.b.block _ (lt_of_heap HBO.out)).trans HBO.out, HKM.out.ext hE5, ?_, ?_, Coll.nil _ _, ?_, by omega⟩
    · exact ⟨fun _ => rfl, rfl, .inr ⟨W4.heap.size, 1, _, rfl, by omega, hgb, by simp, by unfold maxLen; omega, rfl, rfl⟩⟩
    · intro g hg
      have hg : W4.heap.size = g := Option.some.inj hg
      omega
    · omega
  have HCB : Hid (KBox W5 (W4.heap.size + 1) (.int .i64 (0 : Nat))) := hcb
  rw [hW5]
  clear hW5 hE5 hgb hcb hs4 hs3 HE4 HB4 HB5 HBO HKM HZ3 HZ4 hmo
  obtain ⟨r4, hr4⟩ : ∃ r, w.heap.size = r := ⟨_, rfl⟩
  obtain ⟨r5, hr5⟩ : ∃ r, w.heap.size + 1 = r := ⟨_, rfl⟩
  obtain ⟨ob, hob⟩ : ∃ r, w.heap.size + 1 + 1 = r := ⟨_, rfl⟩
  obtain ⟨mb, hmb⟩ : ∃ r, W3.heap.size = r := ⟨_, rfl⟩
  obtain ⟨cb, hcb⟩ : ∃ r, W4.heap.size + 1 = r := ⟨_, rfl⟩
  obtain ⟨gb, hgb⟩ : ∃ r, W4.heap.size = r := ⟨_, rfl⟩
  rw [hob, hr5, hmb, hcb, hgb] at HBF
  rw [hcb] at HCB
  rw [hob, hr5, hr4, hmb, hcb, hgb]
  rw [hr4] at HBF
  have HR4 := hide hr4
  clear hob hr5 hmb hcb hgb hr4
  have HBL : Hid (BL (fun k => sortR (E k)) K n 0 0 [0] []) := BL.start HH.out.zero
  refine wp_loop_ghost_k (BI w n fs fi fb (fun k => sortR (E k)) K r4 r5 ob cb mb) 64 ?_ ?_
  · exact BI.intro (i := 0) (cnt := 0) rfl rfl HBF.out HCB.out HBL.out trivial
  · clear HBF HCB HBL W5
    rintro k a wq ⟨ds, us, uo, sv, i, cnt, order, st, rfl, hk, hBF, hCB, hBL, hM⟩ J KK hJ hKK
    have HJ := hide hJ
    have HK := hide hk
    have HM := hide hM
    have HBF := hide hBF
    have HCB := hide hCB
    have HBL := hide hBL
    clear hJ hk hM hBF hCB hBL
    dsimp only [bF]
    obtain ⟨uq, uc, huo⟩ := HBF.out.od.sl
    rw [List.length_map] at huo
    rw [huo] at HBF
    rw [huo]
    clear huo
    by_cases hlt : i < order.length
    · have hli : (i : Int) < (order.length : Int) := by omega
      obtain ⟨gu, huq⟩ : ∃ gu, uq = some ⟨gu, 0, none⟩ := by
        rcases HBF.out.od.form with ⟨h, h0⟩ | ⟨g, c', h, -⟩
        · rw [List.map_eq_nil_iff] at h0
          rw [h0] at hlt; exact absurd hlt (Nat.not_lt_zero _)
        · injection h with h1; exact ⟨g, h1⟩
      subst huq
      have gz : gu < wq.heap.size := (HBF.out.od.2.lt gu rfl).2
      obtain ⟨key, hkey⟩ : ∃ key, order[i]? = some key := ⟨_, List.getElem?_eq_getElem hlt⟩
      have g0 : wq.cell? ⟨gu, i, none⟩ = some (.int .i64 key) := by
        have := own_at (w := wq) HBF.out.od (i := i) (j := 0) (x := (key : Int)) (v := .int .i64 key) (by rw [List.getElem?_map, hkey]; rfl) rfl
        simpa using this
      have HKEY := hide hkey
      clear hkey
      have hef := HH.out.ef
      go_wp2_with fail
      obtain ⟨lb, hlb⟩ : ∃ lb, wq.heap.size = lb := ⟨_, rfl⟩
      obtain ⟨W1, hW1⟩ : ∃ W1, wq.alloc (.cells #[.slice none 0 0] 91) = W1 := ⟨_, rfl⟩
      have hE1 : Ext wq W1 := by rw [← hW1]; exact (Ext.refl _).alloc _
      have hL1 : W1.heap[lb]? = some (.cells #[.slice none 0 0] 91 (0, 0)) := by rw [← hW1, ← hlb]; exact heap_alloc_new _ _
      rw [hW1, hlb]
      refine (HH.out.call key W1 (HBL.out.all key (List.mem_of_getElem? HKEY.out)) (HBF.out.ext.trans hE1)).mono ?_
      rintro e W2 ⟨ff, ib, O0, Init, rfl, eff, hseq, hinit, hO0, hE2⟩
      obtain ⟨L, hL⟩ : ∃ L, E key = L := ⟨_, rfl⟩
      rw [hL] at hseq
      obtain ⟨B, hB⟩ : ∃ B, W2.heap.size = B := ⟨_, rfl⟩
      have HE2 := hide (hE1.trans hE2)
      have HL2 : Hid (W2.heap[lb]? = some (.cells #[.slice none 0 0] 91 (0, 0))) := (hE2.b.block _ (lt_of_heap hL1)).trans hL1
      have HLB := hide hlb
      have HLL := hide hL
      have HBB := hide hB
      have HSEQ := hide hseq
      have HINIT := hide hinit
      have HO0 := hide hO0
      have HEF := hide eff
      have HZ1 : Hid (lb < W1.heap.size ∧ W1.heap.size ≤ B ∧ lb < B) := ⟨lt_of_heap hL1, by rw [← hB]; exact hE2.size, by rw [← hB]; exact Nat.lt_of_lt_of_le (lt_of_heap hL1) hE2.size⟩
      have hcbz : cb < lb := by rw [← hlb]; exact lt_of_heap HCB.out
      have hr4z : r4 < lb := by rw [← hlb]; exact lt_of_heap HBF.out.b4
      have hr5z : r5 < lb := by rw [← hlb]; exact lt_of_heap HBF.out.b5
      clear hW1 hE1 hL1 hE2 hlb hL hB hseq hinit hO0 g0 gz
      go_wp2_with fail
      have HN4 : Hid (r4 ≠ cb ∧ r5 ≠ cb ∧ r4 ≠ r5) := by
        have h4 := HBF.out.b4
        have h5 := HBF.out.b5
        have hc : wq.heap[cb]? = _ := HCB.out
        refine ⟨fun e => ?_, fun e => ?_, fun e => ?_⟩
        · rw [e, hc] at h4; cases h4
        · rw [e, hc] at h5; cases h5
        · rw [e, h5] at h4; cases h4
      refine wp_rangeY (n := L.length) rfl HEF.out HSEQ.out (fun i O x V hi hX => by obtain ⟨s, -, rfl⟩ := hX; rfl)
        (fun j O W => LJ wq lb cb B cnt L j O W) (fun c O W => LX wq cb r4 r5 B cnt L c O W) ?_ ?_ ?_ ?_ ?_ ?_ ?_ ?_ ?_
      · rintro j O W ⟨u, ho, -⟩
        exact (HBF.out.off HCB.out ho).ext
      · intro j
        rw [HBB.out]
        exact LJ.rely HLB.out.symm (by rw [HLB.out]; exact hcbz) (by rw [HLB.out]; exact HZ1.out.2.2) j
      · intro c
        rw [HBB.out]
        exact LX.rely (by rw [HLB.out]; exact hr4z) (by rw [HLB.out]; exact hr5z) (by rw [HLB.out]; exact HZ1.out.2.2) c
      · exact HINIT.out
      · intro k hk
        have := HO0.out k hk
        omega
      · refine ⟨_, Off.of_ext HE2.out, HL2.out, HE2.out.b.block _ (lt_of_heap HCB.out) |>.trans HCB.out, Own.nil _ _ _ (fun _ => rfl), fun g hg => (by cases hg), fun k hk => ?_, by have := HBL.out.cn; omega, by rw [HBB.out]; exact Nat.le_refl _⟩
        have := HO0.out k hk
        have h1 := HZ1.out
        have h2 := HLB.out
        omega
      · rintro l j x O V hj ⟨s, hs, rfl⟩ ⟨u, hoff, hlb, hcb, hown, hnO, hOz, hcnt, hBV⟩ hOV hl hlV
        rw [HBB.out] at hl ⊢
        unfold stpV
        gi_wp2_with fail
        refine ⟨KFO.of_ext ((Ext.refl V).alloc _) hOV, fun U hC hrec => ?_⟩
        have hVU : ∀ k, k < V.heap.size → k ≠ l → U.heap[k]? = V.heap[k]? := fun k hk hn => (hC.block k (by simp; omega) hn).trans (Below.heap_alloc _ _ _ hk)
        have hVz : V.heap.size + 1 ≤ U.heap.size := by have := hC.size; simpa using this
        have hyb : U.heap[V.heap.size]? = some (.cells (stpC s).toArray 71 (0, 0)) := (hC.block _ (by simp) (by omega)).trans (heap_alloc_new V _)
        obtain ⟨yb, hyz⟩ : ∃ yb, V.heap.size = yb := ⟨_, rfl⟩
        have hz1 := HZ1.out
        have hlbV := lt_of_heap hlb
        have hcbV := lt_of_heap hcb
        have hlbU : U.heap[lb]? = some (.cells #[u] 91 (0, 0)) := (hVU lb hlbV (by omega)).trans hlb
        have hcbU : U.heap[cb]? = some (.cells #[.int .i64 (cnt + j : Nat)] 3 (0, 0)) := (hVU cb hcbV (by omega)).trans hcb
        have hu1 : ∀ g, u.ownBlock = some g → g < V.heap.size := fun g hg => (hown.2.lt g hg).2
        have hu2 : ∀ g, u.ownBlock = some g → B + 2 ≤ g := fun g hg => (hown.2.lt g hg).1
        have hownU : Own stpC 8 U (B + 2) 71 u (L.take j) := hown.of_block fun k hk => hVU k (hu1 k hk) (by have := hu2 k hk; omega)
        have hoU : Off (fun k => k = cb) wq U := ⟨hC.os.trans hoff.os, hC.tape.trans hoff.tape, hC.output.trans hoff.output, by have := hoff.size; omega, fun k hk hn => (hVU k (by have := hoff.size; omega) (by have := HLB.out; omega)).trans (hoff.block k hk hn)⟩
        obtain ⟨m, hm⟩ : ∃ m, cnt + j = m := ⟨_, rfl⟩
        have hln : (L.take j).length = j := by rw [List.length_take]; omega
        have HTK : Hid (L.take (j + 1) = L.take j ++ [s]) := by show _ = _; rw [List.take_add_one, hs]; rfl
        obtain ⟨uq, uc2, hus⟩ := hown.sl
        rw [hln] at hus
        rw [hm] at hcbU hcnt
        rw [hyz] at hyb hVz
        have hy := fun i => cells_at hyb i
        have y0 : U.cell? ⟨yb, 0, none⟩ = some (.int .i64 s.1.g.n) := hy 0
        have y1 : U.cell? ⟨yb, 1, none⟩ = some (.int .i64 s.1.g.h0) := hy 1
        have y2 : U.cell? ⟨yb, 2, none⟩ = some (.int .i64 s.1.g.h1) := hy 2
        have y3 : U.cell? ⟨yb, 3, none⟩ = some (.int .i64 s.1.g.h2) := hy 3
        have y4 : U.cell? ⟨yb, 4, none⟩ = some (.int .i64 s.1.g.h3) := hy 4
        have y5 : U.cell? ⟨yb, 5, none⟩ = some (.int .i64 s.1.g.h4) := hy 5
        have y6 : U.cell? ⟨yb, 6, none⟩ = some (.int .i64 s.1.f) := hy 6
        have y7 : U.cell? ⟨yb, 7, none⟩ = some (.int .i64 (s.2 : Nat)) := hy 7
        have yz := lt_of_heap hyb
        have l0 : U.cell? ⟨lb, 0, none⟩ = some u := cells_at hlbU 0
        have lz := lt_of_heap hlbU
        have HVU : Hid (∀ k, O k → U.heap[k]? = V.heap[k]? ∨ k = l) := fun k hk => by
          by_cases h : k = l
          · exact .inr h
          · exact .inl (hVU k (hOV k hk) h)
        have HYB := hide hyb
        have HLBU := hide hlbU
        have HCBU := hide hcbU
        have HOWN := hide hownU
        have HU := hide (And.intro hu1 (And.intro hu2 hnO))
        have HOU := hide hoU
        have HM := hide hm
        have HOV := hide hOV
        have HOZ := hide hOz
        have HBV := hide hBV
        have HVZ := hide hVz
        have HYZ := hide hyz
        have HUS := hide hus
        have HSJ := hide hs
        have HREC := hide hrec
        have HJL := hide hj
        have HLN := hide hln
        have HLL2 := hide hl
        rw [hus] at l0
        clear hVU hyb hlb hcb hlbU hcbU hown hownU hoff hoU hu1 hu2 hnO hm hOV hOz hBV hVz hyz hus hs hrec hC hy hj hlbV hcbV hz1 hln hl
        rw [HYZ.out]
        have hnew : ∀ (Z : World) j u, (stpC s)[j]? = some u → (Z.alloc (.cells #[.int .i64 s.1.g.n, .int .i64 s.1.g.h0, .int .i64 s.1.g.h1, .int .i64 s.1.g.h2, .int .i64 s.1.g.h3, .int .i64 s.1.g.h4, .int .i64 s.1.f, .int .i64 (s.2 : Nat)] 71)).cell? ⟨Z.heap.size, j, none⟩ = some u := fun Z j u h => by
          rw [cell_of_row _ _ _ _ _ _ (heap_alloc_new Z _), ← h, ← List.getElem?_toArray]; rfl
        have HNEW := hide hnew
        clear hnew
        have HBU : Hid (B + 2 ≤ U.heap.size) := by
          show _ ≤ _
          have h1 := HLL2.out
          have h2 := HYZ.out
          have h3 := HVZ.out
          omega
        gi_upto_region 10 with (gi_at_builtin; refine wpListIn_append1 rfl (.tmp 36) (.tmp 38) 91 rfl (B + 2) 71 (stpV default) 8 64 Try.underlying91 step_info rfl (by decide) u (L.take j) s U.heap.size (by rw [HUS.out]; rfl) (HOWN.out.alloc _) rfl (HNEW.out U) (fun u hu => by simp only [stpC, List.mem_cons, List.not_mem_nil, or_false] at hu; rcases hu with rfl | rfl | rfl | rfl | rfl | rfl | rfl | rfl <;> rfl) (by rw [HLN.out]; have := HM.out; omega) (by decide) (by simp only [World.size_alloc]; have := HBU.out; omega) ?_; intro v' W6 hown' hg6 hform; rw [HLN.out] at hform; obtain ⟨g', c', rfl, hgf⟩ := hform; have hl6 : W6.heap[lb]? = some (.cells #[u] 91 (0, 0)) := (hg6.block lb (by simp only [World.size_alloc]; omega) (fun he => by have h1 := HU.out.2.1 lb he.symm; have h2 := HZ1.out.2.2; omega)).trans ((Below.heap_alloc _ _ _ lz).trans HLBU.out); have l6 : W6.cell? ⟨lb, 0, none⟩ = some u := cells_at hl6 0; have lf6 : W6.frozen? ⟨lb, 0, none⟩ = false := frozen_of hl6; have lz6 := lt_of_heap hl6; have HOWN' := hide hown'; have HG6 := hide hg6; have HGF := hide hgf; have HL6 := hide hl6; rw [HUS.out] at l6; clear hown' hg6 hgf hl6 y0 y1 y2 y3 y4 y5 y6 y7 yz l0 lz)
        obtain ⟨vv, hvv⟩ : ∃ vv, Value.slice (some ⟨g', 0, none⟩) (j + 1) c' = vv := ⟨_, rfl⟩
        have hvb : vv.ownBlock = some g' := by rw [← hvv]; rfl
        have HE6 : Hid (Ext U (U.alloc (.cells #[.int .i64 s.1.g.n, .int .i64 s.1.g.h0, .int .i64 s.1.g.h1, .int .i64 s.1.g.h2, .int .i64 s.1.g.h3, .int .i64 s.1.g.h4, .int .i64 s.1.f, .int .i64 (s.2 : Nat)] 71))) := (Ext.refl U).alloc _
        have hg6 : (U.alloc (.cells #[.int .i64 s.1.g.n, .int .i64 s.1.g.h0, .int .i64 s.1.g.h1, .int .i64 s.1.g.h2, .int .i64 s.1.g.h3, .int .i64 s.1.g.h4, .int .i64 s.1.f, .int .i64 (s.2 : Nat)] 71)).grownBy W6 u.ownBlock := HG6.out
        have hus : (U.alloc (.cells #[.int .i64 s.1.g.n, .int .i64 s.1.g.h0, .int .i64 s.1.g.h1, .int .i64 s.1.g.h2, .int .i64 s.1.g.h3, .int .i64 s.1.g.h4, .int .i64 s.1.f, .int .i64 (s.2 : Nat)] 71)).heap.size = U.heap.size + 1 := by simp
        have hgf : u.ownBlock = some g' ∨ g' = (U.alloc (.cells #[.int .i64 s.1.g.n, .int .i64 s.1.g.h0, .int .i64 s.1.g.h1, .int .i64 s.1.g.h2, .int .i64 s.1.g.h3, .int .i64 s.1.g.h4, .int .i64 s.1.f, .int .i64 (s.2 : Nat)] 71)).heap.size := HGF.out
        have hk6 : KF B (U.alloc (.cells #[.int .i64 s.1.g.n, .int .i64 s.1.g.h0, .int .i64 s.1.g.h1, .int .i64 s.1.g.h2, .int .i64 s.1.g.h3, .int .i64 s.1.g.h4, .int .i64 s.1.f, .int .i64 (s.2 : Nat)] 71)) W6 := KF.grown hg6 (fun k hk => .inr (by
          obtain ⟨cs, fr, hh⟩ := HOWN.out.typed k hk
          exact ⟨cs, _, fr, (Below.heap_alloc _ _ _ (lt_of_heap hh)).trans hh⟩))
        have HOWN' : Hid (Own stpC 8 W6 (B + 2) 71 vv (L.take j ++ [s])) := hvv ▸ HOWN'.out
        clear HG6 HGF
        generalize U.alloc (.cells #[.int .i64 s.1.g.n, .int .i64 s.1.g.h0, .int .i64 s.1.g.h1, .int .i64 s.1.g.h2, .int .i64 s.1.g.h3, .int .i64 s.1.g.h4, .int .i64 s.1.f, .int .i64 (s.2 : Nat)] 71) = U2 at HE6 hg6 hus hgf hk6
        have hz1 := HZ1.out
        have hz2 := HLB.out
        have hzU := HBU.out
        have hg'1 : B + 2 ≤ g' ∧ g' ≠ lb ∧ g' ≠ cb ∧ ¬ O g' := by
          rcases hgf with h | h
          · have h1 := HU.out.2.1 g' h
            exact ⟨h1, by omega, by omega, HU.out.2.2 g' h⟩
          · refine ⟨by omega, by omega, by omega, fun ho => ?_⟩
            have h1 := HOV.out g' ho
            have h2 := HVZ.out
            have h3 := HYZ.out
            omega
        have hub : ∀ k, u.ownBlock = some k → B + 2 ≤ k ∧ ¬ O k := fun k hk => ⟨HU.out.2.1 k hk, HU.out.2.2 k hk⟩
        obtain ⟨W7, hW7⟩ : ∃ W7, W6.setCell ⟨lb, 0, none⟩ vv = W7 := ⟨_, rfl⟩
        have hk7 : ∀ k, k < U.heap.size → k ≠ lb → u.ownBlock ≠ some k → W7.heap[k]? = U.heap[k]? := fun k h1 h2 h3 => by
          rw [← hW7]
          exact (Below.heap_setCell _ _ _ _ h2).trans ((hg6.block k (by omega) fun he => h3 he.symm).trans (HE6.out.b.block k h1))
        have hl7 : W7.heap[lb]? = some (.cells #[vv] 91 (0, 0)) := by rw [← hW7]; exact heap_set HL6.out vv
        have hc7 : W7.heap[cb]? = some (.cells #[.int .i64 m] 3 (0, 0)) := (hk7 cb (lt_of_heap HCBU.out) (by omega) (fun h => by have := (hub cb h).1; omega)).trans HCBU.out
        have hkf7 : KF B U W7 := by rw [← hW7]; exact ((KF.of_ext HE6.out).trans hk6).trans (KF.setCell _ _ _)
        have hown7 : Own stpC 8 W7 (B + 2) 71 vv (L.take j ++ [s]) := by rw [← hW7]; exact HOWN'.out.setNe (a := ⟨lb, 0, none⟩) (fun k hk => by rw [hvb] at hk; injection hk with hk; rw [← hk]; exact hg'1.2.1) _
        have hos7 : W7.os = U.os ∧ W7.tape = U.tape ∧ W7.output = U.output := by
          rw [← hW7]
          exact ⟨hg6.os.trans HE6.out.b.os, hg6.tape.trans HE6.out.b.tape, hg6.output.trans HE6.out.b.output⟩
        have hz7 : U.heap.size ≤ W7.heap.size := hkf7.1
        have q0 : W7.cell? ⟨cb, 0, none⟩ = some (.int .i64 m) := cells_at hc7 0
        have qf : W7.frozen? ⟨cb, 0, none⟩ = false := frozen_of hc7
        have qz := lt_of_heap hc7
        have H7 := hide (And.intro hk7 (And.intro hl7 (And.intro hc7 (And.intro hkf7 (And.intro hown7 (And.intro hos7 hz7))))))
        have HG' := hide hg'1
        have HUB := hide hub
        have HVV := hide hvb
        rw [hvv, hW7]
        clear hk7 hl7 hc7 hkf7 hown7 hos7 hz7 hg'1 hub hvb hk6 hg6 hgf hus hW7 HL6 HOWN' l6 lf6 lz6 hvv
        gi_upto_region 11 with fail
        obtain ⟨hk7, hl7, hc7, hkf7, hown7, hos7, hz7⟩ := H7.out
        obtain ⟨W8, hW8⟩ : ∃ W8, W7.setCell ⟨cb, 0, none⟩ (.int .i64 ((m : Int) + 1)) = W8 := ⟨_, rfl⟩
        have hk8 : ∀ k, k < U.heap.size → k ≠ lb → k ≠ cb → u.ownBlock ≠ some k → W8.heap[k]? = U.heap[k]? := fun k h1 h2 h3 h4 => by
          rw [← hW8]
          exact (Below.heap_setCell _ _ _ _ h3).trans (hk7 k h1 h2 h4)
        have hcl : cb ≠ lb := by omega
        have hl8 : W8.heap[lb]? = some (.cells #[vv] 91 (0, 0)) := by rw [← hW8]; exact (Below.heap_setCell _ _ _ _ (fun e => hcl e.symm)).trans hl7
        have hc8 : W8.heap[cb]? = some (.cells #[.int .i64 (m + 1 : Nat)] 3 (0, 0)) := by rw [← hW8]; exact heap_set hc7 _
        have hkf8 : KF B U W8 := by rw [← hW8]; exact hkf7.trans (KF.setCell _ _ _)
        have hown8 : Own stpC 8 W8 (B + 2) 71 vv (L.take j ++ [s]) := by
          rw [← hW8]
          exact hown7.setNe (a := ⟨cb, 0, none⟩) (fun k hk => by rw [HVV.out] at hk; injection hk with hk; rw [← hk]; exact HG'.out.2.2.1) _
        have hos8 : W8.os = U.os ∧ W8.tape = U.tape ∧ W8.output = U.output := by rw [← hW8]; exact hos7
        have hz8 : U.heap.size ≤ W8.heap.size := hkf8.1
        have hz1 := HZ1.out
        have hlbz := HLB.out
        have HKO8 : Hid (KO O U W8) := fun k hk => by
          have h1 := HOZ.out k hk
          exact hk8 k (by have h2 := HOV.out k hk; have h3 := HVZ.out; have h4 := HYZ.out; omega) (by omega) (by omega) (fun h => (HUB.out k h).2 hk)
        have HOFF8 : Hid (Off (fun k => k = cb) wq W8) := by
          have ho := HOU.out
          refine ⟨hos8.1.trans ho.os, hos8.2.1.trans ho.tape, hos8.2.2.trans ho.output, Nat.le_trans ho.size hz8, fun k hk hn => ?_⟩
          have h1 := ho.size
          exact (hk8 k (by omega) (by omega) hn (fun h => by have h2 := (HUB.out k h).1; omega)).trans (ho.block k hk hn)
        have HKF8 := hide hkf8
        have HL8 := hide hl8
        have HC8 := hide hc8
        have HOWN8 := hide hown8
        have HZ8 : Hid (B ≤ W8.heap.size) := by
          show _ ≤ _
          have h1 := HBU.out
          omega
        have q0 : W8.cell? ⟨cb, 0, none⟩ = some (.int .i64 (m + 1 : Nat)) := cells_at hc8 0
        have qz := lt_of_heap hc8
        rw [hW8]
        clear hk7 hl7 hc7 hkf7 hown7 hos7 hz7 hk8 hcl hl8 hc8 hkf8 hown8 hos8 hz8 hz1 hlbz hW8 H7
        obtain ⟨m1, hm1⟩ : ∃ m1, m + 1 = m1 := ⟨_, rfl⟩
        rw [hm1] at q0 HC8
        have HM1 := hide hm1
        clear hm1 hcnt
        by_cases hm2 : m1 ≤ 4096
        · have hd : decide (4096 < m1) = false := decide_eq_false (by omega)
          gi_wp2_with fail
          refine ⟨⟨HKF8.out, HKO8.out⟩, vv, HOFF8.out, HL8.out, ?_, ?_, fun g hg => ?_, HOZ.out, by have h1 := HM.out; have h2 := HM1.out; omega, HZ8.out⟩
          · show _ = _
            rw [show cnt + (j + 1) = m1 by have h1 := HM.out; have h2 := HM1.out; omega]
            exact HC8.out
          · rw [HTK.out]
            exact HOWN8.out
          · rw [HVV.out] at hg
            injection hg with hg
            rw [← hg]
            exact HG'.out.2.2.2
        · have hd : decide (4096 < m1) = true := decide_eq_true (by omega)
          obtain ⟨hn4, hn5, hn45⟩ := HN4.out
          have hr4W : W8.heap[r4]? = some (.cells #[.int .i64 0, .slice none 0 0] 29 (0, 0)) := (HOFF8.out.block r4 (lt_of_heap HBF.out.b4) hn4).trans HBF.out.b4
          have hr5W : W8.heap[r5]? = some (.cells #[.int .i64 0] 30 (0, 0)) := (HOFF8.out.block r5 (lt_of_heap HBF.out.b5) hn5).trans HBF.out.b5
          have a0 : W8.cell? ⟨r4, 0, none⟩ = some (.int .i64 0) := cells_at hr4W 0
          have a1 : W8.cell? ⟨r4, 1, none⟩ = some (.slice none 0 0) := cells_at hr4W 1
          have af : W8.frozen? ⟨r4, 0, none⟩ = false := frozen_of hr4W
          have af1 : W8.frozen? ⟨r4, 1, none⟩ = false := frozen_of hr4W
          have az := lt_of_heap hr4W
          have b0 : W8.cell? ⟨r5, 0, none⟩ = some (.int .i64 0) := cells_at hr5W 0
          have bf : W8.frozen? ⟨r5, 0, none⟩ = false := frozen_of hr5W
          have bz := lt_of_heap hr5W
          have HR4W := hide hr4W
          have HR5W := hide hr5W
          clear hr4W hr5W
          gi_wp2_with fail
          obtain ⟨W9, hW9⟩ : ∃ W9, ((W8.setCell ⟨r4, 0, none⟩ (.int .i64 0)).setCell ⟨r4, 1, none⟩ (.slice none 0 0)).setCell ⟨r5, 0, none⟩ (.int .i64 17) = W9 := ⟨_, rfl⟩
          have hs1 := heap_set (j := 0) HR4W.out (.int .i64 0)
          have hs2 := heap_set (j := 1) hs1 (.slice none 0 0)
          have hr4 : W9.heap[r4]? = some (.cells #[.int .i64 0, .slice none 0 0] 29 (0, 0)) := by
            rw [← hW9]
            exact (Below.heap_setCell _ _ _ _ hn45).trans hs2
          have hr5 : W9.heap[r5]? = some (.cells #[.int .i64 17] 30 (0, 0)) := by
            rw [← hW9]
            exact heap_set ((Below.heap_setCell _ _ _ _ (fun e => hn45 e.symm)).trans ((Below.heap_setCell _ _ _ _ (fun e => hn45 e.symm)).trans HR5W.out)) _
          have hk9 : ∀ k, k ≠ r4 → k ≠ r5 → W9.heap[k]? = W8.heap[k]? := fun k h1 h2 => by
            rw [← hW9]
            exact (Below.heap_setCell _ _ _ _ h2).trans ((Below.heap_setCell _ _ _ _ h1).trans (Below.heap_setCell _ _ _ _ h1))
          have hz9 : W9.heap.size = W8.heap.size := by rw [← hW9]; simp
          have hos9 : W9.os = W8.os ∧ W9.tape = W8.tape ∧ W9.output = W8.output := by rw [← hW9]; exact ⟨rfl, rfl, rfl⟩
          have hkf9 : KF B U W9 := by rw [← hW9]; exact ((HKF8.out.trans (KF.setCell _ _ _)).trans (KF.setCell _ _ _)).trans (KF.setCell _ _ _)
          have ho8 := HOFF8.out
          have hlbz := HLB.out
          rw [hW9]
          refine ⟨⟨hkf9, fun k hk => ?_⟩, rfl, ⟨hos9.1.trans ho8.os, hos9.2.1.trans ho8.tape, hos9.2.2.trans ho8.output, by have := ho8.size; omega, fun k hk hn => ?_⟩, hr4, hr5, HOZ.out, ?_, by have := HZ8.out; omega⟩
          · have h1 := HOZ.out k hk
            exact (hk9 k (by omega) (by omega)).trans (HKO8.out k hk)
          · exact (hk9 k (fun e => hn (.inr (.inl e))) (fun e => hn (.inr (.inr e)))).trans (ho8.block k hk fun e => hn (.inl e))
          · have h1 := HM.out
            have h2 := HM1.out
            have h3 := HJL.out
            omega
      · rintro M O W ⟨u, hoff, hlb, hcb, hown, hnO, hOz, hcnt, hBV⟩ hM hMM
        rw [List.take_length] at hown
        have hLne : L ≠ [] := by rw [← HLL.out]; exact HH.out.ne key (HBL.out.all key (List.mem_of_getElem? HKEY.out))
        obtain ⟨gs, cs, rfl, -⟩ : ∃ gs cs, u = .slice (some ⟨gs, 0, none⟩) L.length cs ∧ True := by
          rcases hown.form with ⟨-, h⟩ | ⟨g, c', h, -⟩
          · exact absurd h hLne
          · exact ⟨g, c', h, trivial⟩
        have l0 : W.cell? ⟨lb, 0, none⟩ = some (.slice (some ⟨gs, 0, none⟩) L.length cs) := cells_at hlb 0
        have lz := lt_of_heap hlb
        have HOFF := hide hoff
        have HLBW := hide hlb
        have HCBW := hide hcb
        have HOWN := hide hown
        have HGS : Hid (B + 2 ≤ gs ∧ gs < W.heap.size) := hown.2.lt gs rfl
        have HCNT := hide hcnt
        have HMM := hide hMM
        have HMB := hide hM
        clear hoff hlb hcb hown hnO hOz hcnt hBV hLne hMM hM
        go_wp2_with fail
        have hlenL : L.length ≤ 4096 := by have h1 := HCNT.out; omega
        refine (srtS_any L gs cs W (B + 2) HOWN.out (by omega) (by rw [← HLL.out]; exact HH.out.one key (HBL.out.all key (List.mem_of_getElem? HKEY.out)))).mono ?_
        rintro e S ⟨rfl, hownS, hgS⟩
        obtain ⟨LS, hLS⟩ : ∃ LS, sortR L = LS := ⟨_, rfl⟩
        have hlenS : LS.length = L.length := by rw [← hLS]; exact (sortR_perm L).length_eq
        rw [hLS] at hownS
        have HLS := hide hLS
        have HLENS := hide hlenS
        have hgsz := HGS.out
        have hz1 := HZ1.out
        have hlbz := HLB.out
        have HOFFS : Hid (Off (fun k => k = cb) wq S) := by
          have ho := HOFF.out
          refine ⟨hgS.os.trans ho.os, hgS.tape.trans ho.tape, hgS.output.trans ho.output, Nat.le_trans ho.size hgS.size, fun k hk hn => ?_⟩
          have h1 := ho.size
          exact (hgS.block k (by omega) (by simp; omega)).trans (ho.block k hk hn)
        have hcS : S.heap[cb]? = some (.cells #[.int .i64 (cnt + L.length : Nat)] 3 (0, 0)) := (hgS.block cb (lt_of_heap HCBW.out) (by simp; omega)).trans HCBW.out
        have hlS : S.heap[lb]? = some (.cells #[.slice (some ⟨gs, 0, none⟩) L.length cs] 91 (0, 0)) := (hgS.block lb lz (by simp; omega)).trans HLBW.out
        have HBFS := hide (HBF.out.off HCB.out HOFFS.out)
        have hM := HMB.out
        have hBB := HBB.out
        have HMS : Hid (Marks w.heap.size S S.heap.size ({ target := .collected M, args := #[] } :: ds)) := by
          have h1 := HBF.out.ext.size
          have h2 := HOFFS.out.size
          have hmm := HMM.out
          have h3 := lt_of_heap hmm
          have h4 := hgS.size
          refine ⟨M, rfl, by omega, by omega, (hgS.block M h3 (by simp; omega)).trans hmm, (HM.out.top (show wq.heap.size ≤ M by omega)).of_heap fun b h5 h6 h7 => ?_⟩
          have h8 := lt_of_heap h7
          refine HOFFS.out.block b h8 fun e => ?_
          have hc : wq.heap[cb]? = _ := HCB.out
          rw [e, hc] at h7
          cases h7
        have HOWNS : Hid (Own stpC 8 S (B + 2) 71 (.slice (some ⟨gs, 0, none⟩) L.length cs) LS) := hownS
        have HBJ0 := hide (BJ.start HBFS.out hcS)
        have HLES : Hid (lb < S.heap.size) := lt_of_heap hlS
        have s0 : S.cell? ⟨lb, 0, none⟩ = some (.slice (some ⟨gs, 0, none⟩) L.length cs) := cells_at hlS 0
        have sz := lt_of_heap hlS
        clear HOWN HLBW HCBW hownS hgS hLS hlenS hgsz hz1 hlbz hcS hlS hM hBB l0 lz HMM HMB HGS HOFF HEF HSEQ HINIT HO0
        go_upto_region 16 with fail
        obtain ⟨cst, hcst⟩ : ∃ cst, cnt + L.length = cst := ⟨_, rfl⟩
        rw [hcst] at HBJ0 HCNT
        have HCST := hide hcst
        have hls : LS.length = L.length := HLENS.out
        obtain ⟨ln, hln⟩ : ∃ ln, L.length = ln := ⟨_, rfl⟩
        rw [hln] at hls hlenL HOWNS ⊢
        have HLNN := hide hln
        have HNDS : Hid (order.length ≤ 33) := HBL.out.few HH.out.few
        have HALLK : Hid (∀ s ∈ LS, K s.2) := by
          rw [← HLS.out]
          intro s hs
          rw [← HLL.out] at hs
          exact HH.out.next key (HBL.out.all key (List.mem_of_getElem? HKEY.out)) s ((sortR_perm _).mem_iff.1 hs)
        have HKF : Hid (∀ j, (keysR order (LS.take j)).length ≤ 33) := fun j => nodup_few 33 _ (keysR_nodup _ _ HBL.out.nd) (keysR_all _ _ (fun k hk => HH.out.few k (HBL.out.all k hk)) fun s hs => HH.out.few _ (HALLK.out s (List.mem_of_mem_take hs)))
        clear hcst hln s0 sz
        go_loopw [8, 13, 49] (fun vo vm vi V => ∃ (j : Nat) (mq : Option Addr) (mc oc go : Nat), j ≤ ln ∧ vi = .int .i64 j ∧ vm = .slice mq j mc ∧ vo = .slice (some ⟨go, 0, none⟩) (keysR order (LS.take j)).length oc ∧
            Hid (BJ w S V mb cb (.int .i64 cst) (keysR order (LS.take j)) (keysR order (LS.take j)) vo vm ((movesR order LS).take j))) (fun _ _ vi _ => ln - (intOf vi).toNat)
        case atStart => exact ⟨0, none, 0, uc, gu, Nat.zero_le _, rfl, rfl, rfl, HBJ0.out⟩
        case round =>
          obtain ⟨j, mq, mc, oc, go, hj, rfl, rfl, rfl, HI⟩ := hrel
          by_cases hlt2 : j < ln
          · obtain ⟨s, hs⟩ : ∃ s, LS[j]? = some s := ⟨_, List.getElem?_eq_getElem (by omega)⟩
            have hownV : Own stpC 8 wr (B + 2) 71 (.slice (some ⟨gs, 0, none⟩) ln cs) LS := HOWNS.out.of_block fun g hg => by
              obtain ⟨c2, fr, hh⟩ := HOWNS.out.typed g hg
              rw [HI.out.ks g _ _ _ hh (by decide), hh]
            have hat := fun t v (hv : (stpC s)[t]? = some v) => own_at (w := wr) hownV hs hv
            have e0 : wr.cell? ⟨gs, j * 8, none⟩ = some (.int .i64 s.1.g.n) := hat 0 _ rfl
            have e1 : wr.cell? ⟨gs, j * 8 + 1, none⟩ = some (.int .i64 s.1.g.h0) := hat 1 _ rfl
            have e2 : wr.cell? ⟨gs, j * 8 + 2, none⟩ = some (.int .i64 s.1.g.h1) := hat 2 _ rfl
            have e3 : wr.cell? ⟨gs, j * 8 + 3, none⟩ = some (.int .i64 s.1.g.h2) := hat 3 _ rfl
            have e4 : wr.cell? ⟨gs, j * 8 + 4, none⟩ = some (.int .i64 s.1.g.h3) := hat 4 _ rfl
            have e5 : wr.cell? ⟨gs, j * 8 + 5, none⟩ = some (.int .i64 s.1.g.h4) := hat 5 _ rfl
            have e6 : wr.cell? ⟨gs, j * 8 + 6, none⟩ = some (.int .i64 s.1.f) := hat 6 _ rfl
            have e7 : wr.cell? ⟨gs, j * 8 + 7, none⟩ = some (.int .i64 (s.2 : Nat)) := hat 7 _ rfl
            have ez : gs < wr.heap.size := (hownV.2.lt gs rfl).2
            have hlj : (j : Int) < (ln : Int) := by omega
            have HSJ := hide hs
            clear hat hownV hs
            go_upto_region 18 with fail
            obtain ⟨yb, hyb⟩ : ∃ yb, wr.heap.size = yb := ⟨_, rfl⟩
            obtain ⟨V1, hV1⟩ : ∃ V1, wr.alloc (.cells #[.int .i64 s.1.g.n, .int .i64 s.1.g.h0, .int .i64 s.1.g.h1, .int .i64 s.1.g.h2, .int .i64 s.1.g.h3, .int .i64 s.1.g.h4, .int .i64 s.1.f, .int .i64 (s.2 : Nat)] 71) = V1 := ⟨_, rfl⟩
            have hE1 : Ext wr V1 := by rw [← hV1]; exact (Ext.refl _).alloc _
            have HY1 : Hid (V1.heap[yb]? = some (.cells (stpC s).toArray 71 (0, 0))) := by show _ = _; rw [← hV1, ← hyb]; exact heap_alloc_new _ _
            have HB1 := hide (HI.out.ext' hE1)
            rw [hyb, hV1]
            clear hyb hV1 hE1 e0 e1 e2 e3 e4 e5 e6 e7 ez HI
            have y7 : V1.cell? ⟨yb, 7, none⟩ = some (.int .i64 (s.2 : Nat)) := cells_at HY1.out 7
            have yz := lt_of_heap HY1.out
            have HKS : Hid (keysR order (LS.take (j + 1)) = keyStep (keysR order (LS.take j)) s) := keysR_take HSJ.out
            have HIN : Hid (s.2 ∈ keysR order (LS.take (j + 1))) := by show _ ∈ _; rw [HKS.out]; exact keyStep_mem _ _
            have hlook := HB1.out.mp.lookOk ikey_ok (mt := 89) (et := 3) (z := .int .i64 0) (fun W => by kernel_rfl) (fun W => by kernel_rfl) (s.2 : Int)
            rw [klook_ents] at hlook
            unfold ienc at hlook
            obtain ⟨oj, hoj⟩ : ∃ oj, keysR order (LS.take j) = oj := ⟨_, rfl⟩
            rw [hoj] at HB1 HKS hlook ⊢
            have HOJ := hide hoj
            have HLJ : Hid (oj.length ≤ 33) := by show _ ≤ _; rw [← hoj]; exact HKF.out j
            clear hoj
            by_cases hin : s.2 ∈ oj
            · rw [if_pos hin] at hlook
              simp only [Option.getD_some, Option.isSome_some] at hlook
              have HK1 : Hid (keysR order (LS.take (j + 1)) = oj) := by show _ = _; rw [HKS.out]; unfold keyStep; rw [if_pos hin]
              have HB2 : Hid (BJ w S V1 mb cb (.int .i64 cst) (keysR order (LS.take (j + 1))) (keysR order (LS.take (j + 1))) (.slice (some ⟨go, 0, none⟩) oj.length oc) (.slice mq j mc) ((movesR order LS).take j)) := by rw [HK1.out]; exact HB1.out
              have HY2 := HY1
              generalize 0 + oj.idxOf s.2 = ix at hlook
              clear hin
              go_upto_region 22 with fail
              clear hlook y7 yz
              have hlook2 := HB2.out.mp.look ikey_ok (mt := 89) (et := 3) (z := .int .i64 0) (fun W => by kernel_rfl) (fun W => by kernel_rfl) (s.2 : Int)
              rw [klook_ents, if_pos HIN.out] at hlook2
              simp only [Option.getD_some, Nat.zero_add] at hlook2
              unfold ienc at hlook2
              obtain ⟨idx, hidx⟩ : ∃ idx, (keysR order (LS.take (j + 1))).idxOf s.2 = idx := ⟨_, rfl⟩
              rw [hidx] at hlook2
              have HIDX := hide hidx
              clear hidx
              have y0 : V1.cell? ⟨yb, 0, none⟩ = some (.int .i64 s.1.g.n) := cells_at HY2.out 0
              have y1 : V1.cell? ⟨yb, 1, none⟩ = some (.int .i64 s.1.g.h0) := cells_at HY2.out 1
              have y2 : V1.cell? ⟨yb, 2, none⟩ = some (.int .i64 s.1.g.h1) := cells_at HY2.out 2
              have y3 : V1.cell? ⟨yb, 3, none⟩ = some (.int .i64 s.1.g.h2) := cells_at HY2.out 3
              have y4 : V1.cell? ⟨yb, 4, none⟩ = some (.int .i64 s.1.g.h3) := cells_at HY2.out 4
              have y5 : V1.cell? ⟨yb, 5, none⟩ = some (.int .i64 s.1.g.h4) := cells_at HY2.out 5
              have y6 : V1.cell? ⟨yb, 6, none⟩ = some (.int .i64 s.1.f) := cells_at HY2.out 6
              have y7 : V1.cell? ⟨yb, 7, none⟩ = some (.int .i64 (s.2 : Nat)) := cells_at HY2.out 7
              have yz := lt_of_heap HY2.out
              have HNEW : Hid (∀ t u, (Mv.cells ⟨s.1, (idx : Int)⟩)[t]? = some u → (V1.alloc (.cells #[.int .i64 s.1.g.n, .int .i64 s.1.g.h0, .int .i64 s.1.g.h1, .int .i64 s.1.g.h2, .int .i64 s.1.g.h3, .int .i64 s.1.g.h4, .int .i64 s.1.f, .int .i64 (idx : Nat)] 97)).cell? ⟨V1.heap.size, t, none⟩ = some u) := fun t u h => by
                rw [cell_of_row _ _ _ _ _ _ (heap_alloc_new V1 _), ← h, ← List.getElem?_toArray]
              have HLM : Hid (((movesR order LS).take j).length = j) := by show _ = _; rw [List.length_take, movesR_len]; have h1 := HLENS.out; have h2 := HLNN.out; omega
              have HMT : Hid ((movesR order LS).take (j + 1) = (movesR order LS).take j ++ [⟨s.1, (idx : Int)⟩]) := by show _ = _; rw [movesR_take HSJ.out, HIDX.out]
              go_wp2_with (at_builtin; refine wpList_append1 rfl (.tmp 72) (.tmp 80) 95 rfl S.heap.size 97 (Mv.v default) 8 64 Try.underlying95 move_info17 rfl (by decide) _ ((movesR order LS).take j) ⟨s.1, (idx : Int)⟩ V1.heap.size rfl (HB2.out.mv.alloc _) rfl HNEW.out (mv_one17 _) (by rw [HLM.out]; omega) (by decide) (by simp only [World.size_alloc]; have h1 := HB2.out.sz.2.1; omega) ?_; intro v' V4 hO4 hg4 hf4; rw [HLM.out] at hf4; obtain ⟨g4, c4, rfl, hgf4⟩ := hf4; have HB4 := hide ((HB2.out.ext' ((Ext.refl V1).alloc _)).moves hg4 hO4); clear hO4 hg4 hgf4 hlook2 y0 y1 y2 y3 y4 y5 y6 y7 yz)
              go_round
              case rel => exact ⟨j + 1, some ⟨g4, 0, none⟩, c4, oc, go, by omega, by go_num, rfl, by rw [HK1.out], by rw [HMT.out]; exact HB4.out⟩
              case measure => simp [intOf]; omega
            · rw [if_neg hin] at hlook
              simp only [Option.getD_none, Option.isSome_none] at hlook
              have HK1 : Hid (keysR order (LS.take (j + 1)) = oj ++ [s.2]) := by show _ = _; rw [HKS.out]; unfold keyStep; rw [if_neg hin]
              obtain ⟨o, hput, hBP⟩ := HB1.out.put s.2 hin
              have HYP : Hid ((V1.putObj mb o).heap[yb]? = some (.cells (stpC s).toArray 71 (0, 0))) := by
                refine (World.putObj_heap_other fun e => ?_).trans HY1.out
                obtain ⟨es, c, h4, _⟩ := HB1.out.mp
                have h5 : V1.heap[yb]? = _ := HY1.out
                rw [e, h4] at h5
                cases h5
              obtain ⟨Vp, hVp⟩ : ∃ Vp, V1.putObj mb o = Vp := ⟨_, rfl⟩
              rw [hVp] at hput hBP HYP
              have HBP := hide hBP
              clear hin hBP hVp
              go_upto_region 21 with fail
              clear hput hlook y7 yz
              have p7 : Vp.cell? ⟨yb, 7, none⟩ = some (.int .i64 (s.2 : Nat)) := cells_at HYP.out 7
              have pz := lt_of_heap HYP.out
              go_upto_region 22 with (at_builtin; refine wpList_append1 rfl (.tmp 67) (.tmp 70) 90 rfl w.heap.size 3 (.int .i64 0) 1 8 Try.underlying90 int_info rfl (by decide) _ (oj.map fun k : Nat => (k : Int)) (s.2 : Int) Vp.heap.size rfl (HBP.out.od.alloc _) rfl (cell_new1 _ _ _) (int_one _) (by rw [List.length_map]; have h1 := HLJ.out; omega) (by decide) (by simp only [World.size_alloc]; have h1 := HBP.out.ext.size; omega) ?_; intro v' V2 hO5 hg5 hf5; rw [List.length_map] at hf5; obtain ⟨g5, c5, rfl, hgf5⟩ := hf5; have HB5 := hide ((HBP.out.ext' ((Ext.refl Vp).alloc _)).order hg5 hO5 rfl hgf5); have HG5 := hide hg5; clear hO5 hg5 hgf5 p7 pz)
              have HY2 : Hid (V2.heap[yb]? = some (.cells (stpC s).toArray 71 (0, 0))) := by
                have hg5 : (Vp.alloc (.cells #[.int .i64 (s.2 : Nat)] 3)).grownBy V2 _ := HG5.out
                refine (hg5.block yb (by have h1 := lt_of_heap HYP.out; simp; omega) fun e => ?_).trans ((Below.heap_alloc _ _ _ (lt_of_heap HYP.out)).trans HYP.out)
                obtain ⟨cs2, fr2, hh⟩ := HBP.out.od.typed yb e.symm
                have h5 : Vp.heap[yb]? = _ := HYP.out
                rw [hh] at h5
                injection h5 with h5
                injection h5 with _ h5
                exact absurd h5 (by decide)
              have HB2 : Hid (BJ w S V2 mb cb (.int .i64 cst) (keysR order (LS.take (j + 1))) (keysR order (LS.take (j + 1))) (.slice (some ⟨g5, 0, none⟩) (oj.length + 1) c5) (.slice mq j mc) ((movesR order LS).take j)) := by rw [HK1.out]; exact HB5.out
              clear HB5 HG5
              have hlook2 := HB2.out.mp.look ikey_ok (mt := 89) (et := 3) (z := .int .i64 0) (fun W => by kernel_rfl) (fun W => by kernel_rfl) (s.2 : Int)
              rw [klook_ents, if_pos HIN.out] at hlook2
              simp only [Option.getD_some, Nat.zero_add] at hlook2
              unfold ienc at hlook2
              obtain ⟨idx, hidx⟩ : ∃ idx, (keysR order (LS.take (j + 1))).idxOf s.2 = idx := ⟨_, rfl⟩
              rw [hidx] at hlook2
              have HIDX := hide hidx
              clear hidx
              have y0 : V2.cell? ⟨yb, 0, none⟩ = some (.int .i64 s.1.g.n) := cells_at HY2.out 0
              have y1 : V2.cell? ⟨yb, 1, none⟩ = some (.int .i64 s.1.g.h0) := cells_at HY2.out 1
              have y2 : V2.cell? ⟨yb, 2, none⟩ = some (.int .i64 s.1.g.h1) := cells_at HY2.out 2
              have y3 : V2.cell? ⟨yb, 3, none⟩ = some (.int .i64 s.1.g.h2) := cells_at HY2.out 3
              have y4 : V2.cell? ⟨yb, 4, none⟩ = some (.int .i64 s.1.g.h3) := cells_at HY2.out 4
              have y5 : V2.cell? ⟨yb, 5, none⟩ = some (.int .i64 s.1.g.h4) := cells_at HY2.out 5
              have y6 : V2.cell? ⟨yb, 6, none⟩ = some (.int .i64 s.1.f) := cells_at HY2.out 6
              have y7 : V2.cell? ⟨yb, 7, none⟩ = some (.int .i64 (s.2 : Nat)) := cells_at HY2.out 7
              have yz := lt_of_heap HY2.out
              have HNEW : Hid (∀ t u, (Mv.cells ⟨s.1, (idx : Int)⟩)[t]? = some u → (V2.alloc (.cells #[.int .i64 s.1.g.n, .int .i64 s.1.g.h0, .int .i64 s.1.g.h1, .int .i64 s.1.g.h2, .int .i64 s.1.g.h3, .int .i64 s.1.g.h4, .int .i64 s.1.f, .int .i64 (idx : Nat)] 97)).cell? ⟨V2.heap.size, t, none⟩ = some u) := fun t u h => by
                rw [cell_of_row _ _ _ _ _ _ (heap_alloc_new V2 _), ← h, ← List.getElem?_toArray]
              have HLM : Hid (((movesR order LS).take j).length = j) := by show _ = _; rw [List.length_take, movesR_len]; have h1 := HLENS.out; have h2 := HLNN.out; omega
              have HMT : Hid ((movesR order LS).take (j + 1) = (movesR order LS).take j ++ [⟨s.1, (idx : Int)⟩]) := by show _ = _; rw [movesR_take HSJ.out, HIDX.out]
              go_wp2_with (at_builtin; refine wpList_append1 rfl (.tmp 72) (.tmp 80) 95 rfl S.heap.size 97 (Mv.v default) 8 64 Try.underlying95 move_info17 rfl (by decide) _ ((movesR order LS).take j) ⟨s.1, (idx : Int)⟩ V2.heap.size rfl (HB2.out.mv.alloc _) rfl HNEW.out (mv_one17 _) (by rw [HLM.out]; omega) (by decide) (by simp only [World.size_alloc]; have h1 := HB2.out.sz.2.1; omega) ?_; intro v' V4 hO4 hg4 hf4; rw [HLM.out] at hf4; obtain ⟨g4, c4, rfl, hgf4⟩ := hf4; have HB4 := hide ((HB2.out.ext' ((Ext.refl V2).alloc _)).moves hg4 hO4); clear hO4 hg4 hgf4 hlook2 y0 y1 y2 y3 y4 y5 y6 y7 yz)
              go_round
              case rel => exact ⟨j + 1, some ⟨g4, 0, none⟩, c4, c5, g5, by omega, by go_num, rfl, by rw [HK1.out, List.length_append]; rfl, by rw [HMT.out]; exact HB4.out⟩
              case measure => simp [intOf]; omega
          · obtain rfl : j = ln := by omega
            rw [show LS.take j = LS from List.take_of_length_le (by omega)] at HI ⊢
            rw [show (movesR order LS).take j = movesR order LS from List.take_of_length_le (by rw [movesR_len]; omega)] at HI
            have HBV := hide (BF.of_BJ HBFS.out HI.out)
            have HMO := hide HI.out.mv
            have HCV := hide HI.out.cb
            have HMD := hide HI.out.md
            have HSZ := hide HI.out.sz
            obtain ⟨vs, hvl, hvo, hvr⟩ := HBV.out.co
            have HVL := hide hvl
            have HVO := hide hvo
            have HVR := hide hvr
            obtain ⟨svq, svc, hsv⟩ := hvo.sl
            rw [hvl] at hsv
            have HSV := hide hsv
            have hst : st.length = i := HBL.out.sl
            clear hvl hvo hvr hsv HI
            have b0 : wr.cell? ⟨ob, 0, none⟩ = some (.int .i64 n) := cells_at HBV.out.bo 0
            have b1 : wr.cell? ⟨ob, 1, none⟩ = some (.slice svq st.length svc) := by rw [← HSV.out]; exact cells_at HBV.out.bo 1
            have bz := lt_of_heap HBV.out.bo
            have bf : wr.frozen? ⟨ob, 1, none⟩ = false := frozen_of HBV.out.bo
            have hsl : (st.length : Nat) ≤ 33 := by rw [hst]; have h1 := HNDS.out; omega
            go_wp2_with (at_builtin; refine wpList_append1 (enc := one) rfl (.tmp 84) (.tmp 86) 27 rfl w.heap.size 95 (.slice none 0 0) 1 24 Try.underlying27 mslice_info17 rfl (by decide) sv vs (.slice mq j mc) wr.heap.size (by rw [HSV.out, hst]; rfl) (HVO.out.alloc _) rfl (cell_new1 _ _ _) (fun u hu => by simp only [one, List.mem_singleton] at hu; subst hu; rfl) (by rw [HVL.out]; omega) (by decide) (by simp only [World.size_alloc]; have h1 := HBV.out.ext.size; omega) ?_; intro v' V5 hO5 hg5 hf5; rw [HVL.out] at hf5; obtain ⟨g5, c5, rfl, hgf5⟩ := hf5; have hb5 : V5.heap[ob]? = some (.cells #[.int .i64 n, sv] 29 (0, 0)) := (hg5.block ob (by simp only [World.size_alloc]; omega) (fun e => by obtain ⟨cs2, fr2, hh⟩ := HVO.out.typed ob e.symm; rw [HBV.out.bo] at hh; injection hh with hh; injection hh with _ hh; exact absurd hh (by decide))).trans ((Below.heap_alloc _ _ _ bz).trans HBV.out.bo); have b50 : V5.cell? ⟨ob, 0, none⟩ = some (.int .i64 n) := cells_at hb5 0; have b51 : V5.cell? ⟨ob, 1, none⟩ = some sv := cells_at hb5 1; have b5f : V5.frozen? ⟨ob, 1, none⟩ = false := frozen_of hb5; have b5z := lt_of_heap hb5; have HO5 := hide hO5; have HG5 := hide hg5; have HGF5 := hide hgf5; have HB5 := hide hb5; rw [HSV.out] at b51; clear hO5 hg5 hgf5 hb5 b0 b1 bz bf)
            have hE5 : Ext wr (wr.alloc (.cells #[.slice mq j mc] 95)) := (Ext.refl wr).alloc _
            have hg5 : (wr.alloc (.cells #[.slice mq j mc] 95)).grownBy V5 sv.ownBlock := HG5.out
            have hu5 : (wr.alloc (.cells #[.slice mq j mc] 95)).heap.size = wr.heap.size + 1 := by simp
            have hgf5 : sv.ownBlock = some g5 ∨ g5 = (wr.alloc (.cells #[.slice mq j mc] 95)).heap.size := HGF5.out
            generalize wr.alloc (.cells #[.slice mq j mc] 95) = Va at hE5 hg5 hu5 hgf5
            have ho5 : Own one 1 V5 w.heap.size 95 (.slice (some ⟨g5, 0, none⟩) (i + 1) c5) (vs ++ [.slice mq j mc]) := by
              have := HO5.out
              rw [hst] at this
              exact this
            have hg5ne : g5 ≠ ob := by
              rcases hgf5 with h | h
              · intro e
                obtain ⟨cs2, fr2, hh⟩ := HVO.out.typed g5 h
                rw [e, HBV.out.bo] at hh
                injection hh with hh
                injection hh with _ hh
                exact absurd hh (by decide)
              · have := lt_of_heap HBV.out.bo
                omega
            have hup := fun {b : Nat} {o2 : Obj} (hb : wr.heap[b]? = some o2) (hn : b ≠ ob) (h2 : ∀ cs fr, o2 ≠ .cells cs 95 fr) => states_up (sv' := .slice (some ⟨g5, 0, none⟩) (i + 1) c5) HVO.out hE5 hg5 hb hn h2
            have hmv := HMO.out
            have hbf := HBV.out.states HVL.out HVR.out HVO.out (hmv.rowE (by rw [movesR_len]; omega)) hE5 hg5 ho5 (fun g hg => by
              have hg : g5 = g := Option.some.inj hg
              rw [← hg]; exact hg5ne)
            have hcbo : cb ≠ ob := fun e => by
              have h1 : wr.heap[cb]? = _ := HCV.out
              rw [e, HBV.out.bo] at h1
              injection h1 with h1
              injection h1 with _ h1
              exact absurd h1 (by decide)
            have hc5 : KBox (V5.setCell ⟨ob, 1, none⟩ (.slice (some ⟨g5, 0, none⟩) (i + 1) c5)) cb (.int .i64 cst) := hup HCV.out hcbo (fun cs2 fr2 he => by injection he with _ he; exact absurd he (by decide))
            have hoi : order[i] = key := by
              have h1 := HKEY.out
              rw [List.getElem?_eq_getElem hlt] at h1
              exact Option.some.inj h1
            have he : sortR (E order[i]) = LS := by
              rw [hoi, HLL.out, HLS.out]
            have hnext := HBL.out.next HH.out.few (fun key hk s hs => HH.out.next key hk s ((sortR_perm _).mem_iff.1 hs)) hlt (by show cnt + (sortR (E order[i])).length ≤ 4096; rw [he]; have h1 := HCNT.out; have h2 := HCST.out; have h3 := HLENS.out; omega)
            simp only [he] at hnext
            rw [show cnt + LS.length = cst by have h2 := HCST.out; have h3 := HLENS.out; omega] at hnext
            have h33 := HNDS.out
            have hkk := HK.out
            have hsz5 : S.heap.size ≤ (V5.setCell ⟨ob, 1, none⟩ (.slice (some ⟨g5, 0, none⟩) (i + 1) c5)).heap.size := by
              have h1 := HSZ.out.2.1
              have h2 := hE5.size
              have h3 := hg5.size
              simp; omega
            refine Handed.intro (k - 1) (by omega) (HJ.out _ _ _ (BI.intro (uo := .slice (some ⟨go, 0, none⟩) (keysR order LS).length oc) (sv := .slice (some ⟨g5, 0, none⟩) (i + 1) c5) (i := i + 1) (cnt := cst) (order := keysR order LS) (st := st ++ [movesR order LS]) rfl (by omega) hbf hc5 hnext ?_))
            refine (HMS.out.top hsz5).of_heap fun b hb1 hb2 hb3 => ?_
            rw [hup (HMD.out b hb3) (fun e => by have h1 := HMD.out b hb3; rw [e, HBV.out.bo] at h1; cases h1) (by simp), hb3]
      · rintro M c O W ⟨rfl, hoff, hr4, hr5, hOz, hmany, hBV⟩ hM hMM
        have HMM := hide hMM
        have HOFF := hide hoff
        have HR4' := hide hr4
        have HR5' := hide hr5
        have hres : buildA (fun k => sortR (E k)) n = (⟨0, []⟩, 17) := HBL.out.stop HH.out.few hlt (by
          show 4096 < cnt + (sortR (E order[i])).length
          have h1 := HKEY.out
          rw [List.getElem?_eq_getElem hlt] at h1
          rw [Option.some.inj h1, HLL.out, (sortR_perm L).length_eq]
          exact hmany)
        have HRES := hide hres
        have hBB := HBB.out
        have HMB : Hid (wq.heap.size ≤ M) := by
          show _ ≤ _
          have h1 := HZ1.out
          have h2 := HLB.out
          omega
        clear hoff hr4 hr5 hOz hmany hBV hM hMM hres hBB
        go_wp2_with fail
        have hlo := HBF.out.lo
        have hof := HOFF.out
        have hz0 := HBF.out.ext.size
        have hE : Ext w W := ⟨⟨hof.os.trans HBF.out.ext.b.os, hof.tape.trans HBF.out.ext.b.tape, hof.output.trans HBF.out.ext.b.output, Nat.le_trans hz0 hof.size, fun k hk => (hof.block k (by omega) (by omega)).trans (HBF.out.ext.b.block k hk)⟩⟩
        have hmk : Marks w.heap.size W W.heap.size ({ target := .collected M, args := #[] } :: ds) := by
          have hmm := HMM.out
          have h3 := lt_of_heap hmm
          have h1 := HMB.out
          refine ⟨M, rfl, by omega, h3, hmm, (HM.out.top h1).of_heap fun b h5 h6 h7 => hof.block b (lt_of_heap h7) fun e => ?_⟩
          rcases e with e | e | e
          · have hc : wq.heap[cb]? = _ := HCB.out
            rw [e, hc] at h7; cases h7
          · rw [e, HBF.out.b4] at h7; cases h7
          · rw [e, HBF.out.b5] at h7; cases h7
        rw [HRES.out]
        refine leave_marks _ _ _ hmk (v := .tuple #[.agg #[.int .i64 0, .slice none 0 0], .int .i64 17]) (fun W' hc => ?_) fun W' hc => ?_
        · exact results_adv rfl rfl rfl (hc.cells _ _ _ _ HR4'.out) (hc.cells _ _ _ _ HR5'.out)
        · refine ⟨_, rfl, ⟨_, rfl, Coll.nil _ _, by simp⟩, hE.chg hc (Nat.le_refl _)⟩
    · have hli : ¬ ((i : Int) < (order.length : Int)) := by omega
      have hi : i = order.length := by have h1 := HBL.out.le; omega
      have HRES := hide (HBL.out.done HH.out.few hlt)
      obtain ⟨svq, svc, hsv⟩ := HBF.out.co.sl
      have HSV := hide hsv
      have HBO := hide HBF.out.bo
      have b0 : wq.cell? ⟨ob, 0, none⟩ = some (.int .i64 n) := cells_at HBO.out 0
      have b1 : wq.cell? ⟨ob, 1, none⟩ = some (.slice svq st.length svc) := by rw [← hsv]; exact cells_at HBO.out 1
      have bz := lt_of_heap HBO.out
      have a0 : wq.cell? ⟨r4, 0, none⟩ = some (.int .i64 0) := cells_at HBF.out.b4 0
      have a1 : wq.cell? ⟨r4, 1, none⟩ = some (.slice none 0 0) := cells_at HBF.out.b4 1
      have af : wq.frozen? ⟨r4, 0, none⟩ = false := frozen_of HBF.out.b4
      have af1 : wq.frozen? ⟨r4, 1, none⟩ = false := frozen_of HBF.out.b4
      have az := lt_of_heap HBF.out.b4
      have c0 : wq.cell? ⟨r5, 0, none⟩ = some (.int .i64 0) := cells_at HBF.out.b5 0
      have cf : wq.frozen? ⟨r5, 0, none⟩ = false := frozen_of HBF.out.b5
      have cz := lt_of_heap HBF.out.b5
      have hn45 : r4 ≠ r5 := fun e => by
        have h4 := HBF.out.b4
        rw [e, HBF.out.b5] at h4; cases h4
      have hn54 : r5 ≠ r4 := fun e => hn45 e.symm
      clear hsv hlt
      go_wp2_with fail
      obtain ⟨W9, hW9⟩ : ∃ W9, ((wq.setCell ⟨r4, 0, none⟩ (.int .i64 n)).setCell ⟨r4, 1, none⟩ (.slice svq st.length svc)).setCell ⟨r5, 0, none⟩ (.int .i64 0) = W9 := ⟨_, rfl⟩
      have hs1 := heap_set (j := 0) HBF.out.b4 (.int .i64 n)
      have hs2 := heap_set (j := 1) hs1 (.slice svq st.length svc)
      have hr4 : W9.heap[r4]? = some (.cells #[.int .i64 n, .slice svq st.length svc] 29 (0, 0)) := by
        rw [← hW9]
        exact (Below.heap_setCell _ _ _ _ hn45).trans hs2
      have hr5 : W9.heap[r5]? = some (.cells #[.int .i64 0] 30 (0, 0)) := by
        rw [← hW9]
        exact heap_set ((Below.heap_setCell _ _ _ _ hn54).trans ((Below.heap_setCell _ _ _ _ hn54).trans HBF.out.b5)) _
      have hk9 : ∀ k, k ≠ r4 → k ≠ r5 → W9.heap[k]? = wq.heap[k]? := fun k h1 h2 => by
        rw [← hW9]
        exact (Below.heap_setCell _ _ _ _ h2).trans ((Below.heap_setCell _ _ _ _ h1).trans (Below.heap_setCell _ _ _ _ h1))
      have hz9 : W9.heap.size = wq.heap.size := by rw [← hW9]; simp
      have hlo := HBF.out.lo
      have hE : Ext w W9 := by
        rw [← hW9]
        exact ((HBF.out.ext.setCell (p := ⟨r4, 0, none⟩) hlo.1 _).setCell (p := ⟨r4, 1, none⟩) hlo.1 _).setCell (p := ⟨r5, 0, none⟩) hlo.2.1 _
      have hmk : Marks w.heap.size W9 wq.heap.size ds := HM.out.of_heap fun b h5 h6 h7 => hk9 b (fun e => by rw [e, HBF.out.b4] at h7; cases h7) (fun e => by rw [e, HBF.out.b5] at h7; cases h7)
      rw [hW9, HRES.out]
      refine leave_marks _ _ _ hmk (v := .tuple #[.agg #[.int .i64 n, .slice svq st.length svc], .int .i64 0]) (fun W' hc => ?_) fun W' hc => ?_
      · exact results_adv rfl rfl rfl (hc.cells _ _ _ _ hr4) (hc.cells _ _ _ _ hr5)
      · have hkeep : ∀ (k : Nat) (cs : Array Value) (e : TypeId) (fr : Nat × Nat), wq.heap[k]? = some (.cells cs e fr) → (e = 95 ∨ e = 97) → W'.heap[k]? = wq.heap[k]? := fun k cs e fr hk he => by
          rw [hk]
          refine hc.cells _ _ _ _ ((hk9 k (fun h => ?_) fun h => ?_).trans hk)
          · rw [h, HBF.out.b4] at hk
            injection hk with hk
            injection hk with _ hk
            rcases he with he | he <;> exact absurd (hk.trans he) (by decide)
          · rw [h, HBF.out.b5] at hk
            injection hk with hk
            injection hk with _ hk
            rcases he with he | he <;> exact absurd (hk.trans he) (by decide)
        have hco := HBF.out.co.keep (W' := W') (by have h1 := hc.size; omega) hkeep
        refine ⟨_, rfl, ⟨_, rfl, HSV.out ▸ hco, ?_⟩, hE.chg hc (Nat.le_refl _)⟩
        show st.length ≤ 64
        exact (by have h1 := HBL.out.sl; have h2 := HBL.out.few HH.out.few; have h3 := HBL.out.le; omega)
end Go.Proofs.Ytnhgdjiljjpgmaa
