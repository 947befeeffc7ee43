/-
  The reference's Extra: how many words, counted by recursion.
  Conditions: as each theorem states.
-/
import Derived.Test.YtmkmgimmlohamaaIncC
namespace Go.Proofs.Ytmkmgimmlohamaa
open Go.RowKit
attribute [local go_sem] Oper.semAt_some

/-- The words that begin with one of the first i moves. -/
def moreS (A B : Adv) (k : Nat) (x : Int) (s i : Nat) : Nat := (((B.st.getD s []).take i).map fun m => exN A B k (toL (ownS A x) m.r, m.to)).sum
theorem more_zero (A B : Adv) (k : Nat) (x : Int) (s : Nat) : moreS A B k x s 0 = 0 := by
  unfold moreS; simp
theorem more_succ (A B : Adv) (k : Nat) (x : Int) (s : Nat) {i : Nat} (hi : i < B.len s) : moreS A B k x s (i + 1) = moreS A B k x s i + exN A B k (toL (ownS A x) (B.mv s i).r, (B.mv s i).to) := by
  have hi' : i < (B.st.getD s []).length := hi
  unfold moreS
  rw [List.take_succ_eq_append_getElem hi', List.map_append, List.sum_append]
  rw [show B.mv s i = (B.st.getD s [])[i] from by show (B.st.getD s []).getD i default = _; rw [List.getD_eq_getElem?_getD, List.getElem?_eq_getElem hi']; rfl]
  simp
theorem more_all (A B : Adv) (k : Nat) (x : Int) (s : Nat) : moreS A B k x s (B.len s) = exN A B (k + 1) (x, (s : Int)) := by
  unfold moreS
  show _ = ((stepX A B (x, (s : Int))).map (exN A B k)).sum
  unfold stepX
  rw [List.map_map]
  have : (B.st.getD s []).take (B.len s) = B.st.getD s [] := List.take_length
  rw [this]
  simp only [Int.toNat_natCast]
  rfl
theorem more_le (A B : Adv) (k : Nat) (x : Int) (s i : Nat) : moreS A B k x s i ≤ exN A B (k + 1) (x, (s : Int)) := by
  rw [← more_all]
  unfold moreS
  rw [show (B.st.getD s []).take (B.len s) = B.st.getD s [] from List.take_length]
  conv => rhs; rw [← List.take_append_drop i (B.st.getD s [])]
  rw [List.map_append, List.sum_append]
  omega
theorem rmore_ret {nn res : Nat} (h : min nn bigM = min res bigM) : Ending.returned (.int .i64 (min (nn : Int) 1048577)) = Ending.returned (.int .i64 ((min res bigM : Nat) : Int)) := by
  rw [← h]
  unfold bigM
  congr 2
  omega
set_option maxRecDepth 16000 in
set_option maxHeartbeats 4000000 in
theorem rmore_step (A B : Adv) (k : Nat) (x : Int) (s : Nat) (u v : Value) (w : World) (hA : AdvRep w u A) (hB : AdvRep w v B) (hs : s < B.L) (hx : x < A.L) (hk : k < 1000)
    (hto : ∀ i, i < B.len s → 0 ≤ (B.mv s i).to ∧ (B.mv s i).to < B.L) (hown : ∀ r, toL (ownS A x) r < A.L)
    (hrec : ∀ W, Ext w W → ∀ (x' : Int) (t : Nat), x' < A.L → t < B.L → Calls Try.prog 45 #[u, v, .agg #[.int .i64 t, .int .i64 x'], .int .i64 k] W fun e w' => e = .returned (.int .i64 (min (exN A B k (x', (t : Int))) bigM : Nat)) ∧ Ext W w') :
    Calls Try.prog 45 #[u, v, .agg #[.int .i64 s, .int .i64 x], .int .i64 ((k + 1 : Nat) : Int)] w fun e w' => e = .returned (.int .i64 (min (exN A B (k + 1) (x, (s : Int))) bigM : Nat)) ∧ Ext w w' := by
  have HT : Hid (0 ≤ x → ∀ W, Ext w W → ∀ r, Calls Try.prog 63 #[u, .int .i64 x, r.v] W fun e w' => e = .returned (.int .i64 (toL (ownS A x) r)) ∧ Ext W w') := fun h W hE r => by
    have h' : ((x.toNat : Nat) : Int) = x := by omega
    have := rto_any A u x.toNat r W (hA.ext hE) (by omega)
    unfold ownS
    rw [if_neg (show ¬ x < 0 by omega)]
    rwa [h'] at this
  have HNO : Hid (x < 0 → ∀ r, toL (ownS A x) r = -1) := fun h r => by
    unfold ownS; rw [if_pos h]; rfl
  obtain ⟨K, hK⟩ : ∃ K : Int, ((k + 1 : Nat) : Int) = K := ⟨_, rfl⟩
  have hK1 : 0 < K := by omega
  have hK2 : K ≤ 1000 := by omega
  have hKk : (k : Int) = K - 1 := by omega
  have HR := hide (fun W (hE : Ext w W) i (hi : i < B.len s) => (by
    have h1 := hto i hi
    have h := hrec W hE (toL (ownS A x) (B.mv s i).r) (B.mv s i).to.toNat (hown _) (by omega)
    rw [hKk, show (((B.mv s i).to.toNat : Nat) : Int) = (B.mv s i).to by omega] at h
    exact h :
      Calls Try.prog 45 #[u, v, .agg #[.int .i64 (B.mv s i).to, .int .i64 (toL (ownS A x) (B.mv s i).r)], .int .i64 (K - 1)] W fun e w' => e = .returned (.int .i64 (min (exN A B k (toL (ownS A x) (B.mv s i).r, (B.mv s i).to)) bigM : Nat)) ∧ Ext W w'))
  rw [hK]
  obtain ⟨p, c, rfl, -⟩ := hA.all_
  obtain ⟨q, d, rfl, -, -, hatB⟩ := hB.all_
  obtain ⟨bb, ob, rfl, hbb, hsb⟩ := hatB (by omega)
  obtain ⟨qb, db, hcb, -, hlb, -, hmv⟩ := hsb s hs
  have HZ := hide (more_zero A B k x s)
  have HS := hide (fun i hi => more_succ A B k x s (i := i) hi)
  have HL := hide (more_all A B k x s)
  have HLE := hide (more_le A B k x s)
  have HMV := hide hmv
  clear hA hB hatB hsb hmv hto hown hrec hK hKk hx
  generalize exN A B (k + 1) (x, (s : Int)) = res at HL HLE ⊢
  generalize moreS A B k x s = sm at HZ HS HL HLE
  have HN := hide (TwoBox.new A B p c (some ⟨bb, ob, none⟩) d w)
  have HE0 := hide (((Ext.refl w).alloc (.cells #[.int .i64 A.n, .slice p A.L c] 24)).alloc (.cells #[.int .i64 B.n, .slice (some ⟨bb, ob, none⟩) B.L d] 24))
  have hz2 : ((w.alloc (.cells #[.int .i64 A.n, .slice p A.L c] 24)).alloc (.cells #[.int .i64 B.n, .slice (some ⟨bb, ob, none⟩) B.L d] 24)).heap.size = w.heap.size + 1 + 1 := by simp
  obtain ⟨W0, hW0⟩ : ∃ W0, (w.alloc (.cells #[.int .i64 A.n, .slice p A.L c] 24)).alloc (.cells #[.int .i64 B.n, .slice (some ⟨bb, ob, none⟩) B.L d] 24) = W0 := ⟨_, rfl⟩
  rw [hW0] at HN HE0 hz2
  have HPB := hide (heap_alloc_new W0 (.cells #[.int .i64 s, .int .i64 x] 45))
  have HN1 := hide (HN.out.ext ((Ext.refl W0).alloc (.cells #[.int .i64 s, .int .i64 x] 45)))
  have HE1 := hide (HE0.out.alloc (.cells #[.int .i64 s, .int .i64 x] 45))
  rw [hz2] at HPB
  have HWW : Hid ((w.alloc (.cells #[.int .i64 A.n, .slice p A.L c] 24)).alloc (.cells #[.int .i64 B.n, .slice (some ⟨bb, ob, none⟩) B.L d] 24) = W0) := hW0
  have hlB : (s : Int) < (B.L : Int) := by omega
  clear HN HE0 hz2 hW0
  generalize hls : B.len s = ls at *
  generalize hmf : B.mv s = mf at *
  clear hls hmf
  go_enter Try.func45, Try.ntmps45
  go_upto_region 1 with fail
  rw [HWW.out]
  generalize W0.alloc (.cells #[.int .i64 s, .int .i64 x] 45) = w1 at HPB HN1 HE1 ⊢
  clear HWW W0
  obtain ⟨z, hz⟩ : ∃ z, w.heap.size = z := ⟨_, rfl⟩
  rw [hz] at HPB HN1
  rw [hz]
  clear hz
  obtain ⟨z0, a0, a1, z1, b0, b1⟩ := HN1.out.cells
  have c0 := dcell HPB.out 0
  have cz := lt_of_heap HPB.out
  have x0 := hcb _ HE1.out
  have xz : bb < w1.heap.size := Nat.lt_of_lt_of_le hbb HE1.out.size
  have dK : decide (K = 0) = false := decide_eq_false (by omega)
  clear hcb hbb
  go_wp2_with fail
  clear z0 a0 a1 z1 b0 b1 c0 cz x0 xz dK
  go_loopw [9, 11, 12] (fun vn vi _ wr => ∃ i nn : Nat, i ≤ ls ∧ vi = .int .i64 i ∧ vn = .int .i64 nn ∧ min nn bigM = min (sm i) bigM ∧ nn ≤ 2 * bigM ∧ Ext w1 wr) (fun _ vi _ _ => ls - (intOf vi).toNat)
  case atStart => exact ⟨0, 0, by omega, rfl, rfl, by rw [HZ.out], by omega, Ext.refl _⟩
  case round =>
    obtain ⟨i, nn, hi, rfl, rfl, hmin, hnn, hE⟩ := hrel
    have hEr := HE1.out.trans hE
    have HNR := hide (HN1.out.ext hE)
    have hb1 := (hE.b.block _ (lt_of_heap HPB.out)).trans HPB.out
    have HMIN := hide hmin
    have hn2 : nn ≤ 2097154 := by unfold bigM at hnn; omega
    clear hmin hnn
    by_cases hlt : i < ls
    · by_cases hle : nn ≤ 1048576
      · obtain ⟨b2, o2, rfl, hb2, hmv⟩ := HMV.out (by omega)
        obtain ⟨m0, m1, m2, m3, m4, m5, m6, m7⟩ := hmv i hlt
        clear hmv
        have d1 : decide (i < ls) = true := decide_eq_true hlt
        have d2 : decide (nn ≤ 1048576) = true := decide_eq_true hle
        have hzz : ∀ W, Ext wr W → z + 1 + 1 < W.heap.size := fun W hW => lt_of_heap ((hW.b.block _ (lt_of_heap hb1)).trans hb1)
        have h3 : ∀ W, Ext wr W → W.cell? ⟨z + 1 + 1, 1, none⟩ = some (.int .i64 x) := fun W hW => dcell ((hW.b.block _ (lt_of_heap hb1)).trans hb1) 1
        have x1 := h3 wr (Ext.refl _)
        have xz := hzz wr (Ext.refl _)
        have h0 : ∀ W, Ext wr W → W.cell? ⟨z, 0, none⟩ = some (.int .i64 A.n) := fun W hW => (HNR.out.ext hW).cells.2.1
        have h1 : ∀ W, Ext wr W → W.cell? ⟨z, 1, none⟩ = some (.slice p A.L c) := fun W hW => (HNR.out.ext hW).cells.2.2.1
        have h2 : ∀ W, Ext wr W → z < W.heap.size := fun W hW => (HNR.out.ext hW).cells.1
        have h5 : ∀ W, Ext wr W → W.cell? ⟨z + 1, 0, none⟩ = some (.int .i64 B.n) := fun W hW => (HNR.out.ext hW).cells.2.2.2.2.1
        have h6 : ∀ W, Ext wr W → W.cell? ⟨z + 1, 1, none⟩ = some (.slice (some ⟨bb, ob, none⟩) B.L d) := fun W hW => (HNR.out.ext hW).cells.2.2.2.2.2
        have hzb : ∀ W, Ext wr W → z + 1 < W.heap.size := fun W hW => (HNR.out.ext hW).cells.2.2.2.1
        have n0 : ∀ W, Ext wr W → W.cell? ⟨b2, o2 + i * 8, none⟩ = some (.int .i64 (mf i).r.g.n) := fun W hW => m0 W (hEr.trans hW)
        have n1 : ∀ W, Ext wr W → W.cell? ⟨b2, o2 + i * 8 + 1, none⟩ = some (.int .i64 (mf i).r.g.h0) := fun W hW => m1 W (hEr.trans hW)
        have n2 : ∀ W, Ext wr W → W.cell? ⟨b2, o2 + i * 8 + 2, none⟩ = some (.int .i64 (mf i).r.g.h1) := fun W hW => m2 W (hEr.trans hW)
        have n3 : ∀ W, Ext wr W → W.cell? ⟨b2, o2 + i * 8 + 3, none⟩ = some (.int .i64 (mf i).r.g.h2) := fun W hW => m3 W (hEr.trans hW)
        have n4 : ∀ W, Ext wr W → W.cell? ⟨b2, o2 + i * 8 + 4, none⟩ = some (.int .i64 (mf i).r.g.h3) := fun W hW => m4 W (hEr.trans hW)
        have n5 : ∀ W, Ext wr W → W.cell? ⟨b2, o2 + i * 8 + 5, none⟩ = some (.int .i64 (mf i).r.g.h4) := fun W hW => m5 W (hEr.trans hW)
        have n6 : ∀ W, Ext wr W → W.cell? ⟨b2, o2 + i * 8 + 6, none⟩ = some (.int .i64 (mf i).r.f) := fun W hW => m6 W (hEr.trans hW)
        have n7 : ∀ W, Ext wr W → W.cell? ⟨b2, o2 + i * 8 + 7, none⟩ = some (.int .i64 (mf i).to) := fun W hW => m7 W (hEr.trans hW)
        have hz2 : ∀ W, Ext wr W → b2 < W.heap.size := fun W hW => Nat.lt_of_lt_of_le hb2 (hEr.trans hW).size
        have HRI := hide (fun W hE => HR.out W hE i hlt)
        have HSI := hide (HS.out i hlt)
        clear m0 m1 m2 m3 m4 m5 m6 m7 hb1
        have HTT := hide (fun h W hE => HT.out h W hE (mf i).r)
        have HNN := hide (fun h => HNO.out h (mf i).r)
        have hrr : min (exN A B k (toL (ownS A x) (mf i).r, (mf i).to)) bigM ≤ 1048577 := Nat.min_le_right _ _
        have HG : Hid (min (nn + min (exN A B k (toL (ownS A x) (mf i).r, (mf i).to)) bigM) bigM = min (sm (i + 1)) bigM ∧ nn + min (exN A B k (toL (ownS A x) (mf i).r, (mf i).to)) bigM ≤ 2 * bigM) := by
          have h1 := HMIN.out
          have h2 := HSI.out
          constructor
          · rw [h2]
            clear hrr HRI HSI
            generalize exN A B k (toL (ownS A x) (mf i).r, (mf i).to) = y
            omega
          · unfold bigM at *
            omega
        clear HSI
        generalize min (exN A B k (toL (ownS A x) (mf i).r, (mf i).to)) bigM = rr at hrr HG HRI
        generalize toL (ownS A x) (mf i).r = tt at HTT HNN HG HRI
        generalize mf i = m at n0 n1 n2 n3 n4 n5 n6 n7 HTT HNN HG HRI
        obtain ⟨⟨⟨mn, ma, mb, mc, md, me⟩, mg⟩, mt⟩ := m
        dsimp only [Rd.v] at n0 n1 n2 n3 n4 n5 n6 n7 HTT HRI
        by_cases hx0 : 0 ≤ x
        · have d3 : decide (0 ≤ x) = true := decide_eq_true hx0
          have HTY := hide (HTT.out hx0)
          clear HTT HNN
          go_upto_region 12 with fail
          clear x1 xz d3
          refine wp_region_ext (by kernel_rfl) (by kernel_rfl) ?_
          repeat (go_big_quiet_step ((go_at_call 63; exact Calls.ext_of (HTY.out _ (hEr.trans (ExtOf.h _))))))
          refine wpQuiet_nil ?_
          rintro w7 ⟨⟨_, hE7⟩, rfl⟩
          clear n0 n1 n2 n3 n4 n5 n6
          have hE17 := hE.trans hE7
          replace h0 := fun W (hW : Ext w7 W) => h0 W (hE7.trans hW)
          replace h1 := fun W (hW : Ext w7 W) => h1 W (hE7.trans hW)
          replace h2 := fun W (hW : Ext w7 W) => h2 W (hE7.trans hW)
          replace h5 := fun W (hW : Ext w7 W) => h5 W (hE7.trans hW)
          replace h6 := fun W (hW : Ext w7 W) => h6 W (hE7.trans hW)
          replace h3 := fun W (hW : Ext w7 W) => h3 W (hE7.trans hW)
          replace hzz := fun W (hW : Ext w7 W) => hzz W (hE7.trans hW)
          replace hzb := fun W (hW : Ext w7 W) => hzb W (hE7.trans hW)
          replace hz2 := fun W (hW : Ext w7 W) => hz2 W (hE7.trans hW)
          replace n7 := fun W (hW : Ext w7 W) => n7 W (hE7.trans hW)
          go_wp2_with fail
          refine wp_region_ext (by kernel_rfl) (by kernel_rfl) ?_
          repeat (go_big_quiet_step ((go_at_call 45; exact Calls.ext_of (HRI.out _ (hEr.trans ((hE7).trans (ExtOf.h _)))))))
          refine wpQuiet_nil ?_
          rintro w9 ⟨⟨_, hE9⟩, rfl⟩
          have HEE := hide (hE17.trans hE9)
          clear h0 h1 h2 h3 h5 h6 n7 hzz hzb hz2 hE9 HNR
          go_wp2_with fail
          go_roundw
          case rel => exact ⟨i + 1, nn + rr, by omega, by go_num, by go_num, HG.out.1, HG.out.2, HEE.out⟩
          case measure => simp [intOf]; omega
        · have d3 : decide (0 ≤ x) = false := decide_eq_false hx0
          obtain rfl : tt = -1 := HNN.out (by omega)
          go_upto_region 13 with fail
          clear x1 xz d3 n0 n1 n2 n3 n4 n5 n6 HTT HNN
          refine wp_region_ext (by kernel_rfl) (by kernel_rfl) ?_
          repeat (go_big_quiet_step ((go_at_call 45; exact Calls.ext_of (HRI.out _ (hEr.trans (ExtOf.h _))))))
          refine wpQuiet_nil ?_
          rintro w9 ⟨⟨_, hE9⟩, rfl⟩
          have HEE := hide (hE.trans hE9)
          clear h0 h1 h2 h3 h5 h6 n7 hzz hzb hz2 hE9 HNR
          go_wp2_with fail
          go_roundw
          case rel => exact ⟨i + 1, nn + rr, by omega, by go_num, by go_num, HG.out.1, HG.out.2, HEE.out⟩
          case measure => simp [intOf]; omega
      · have d1 : decide (i < ls) = true := decide_eq_true hlt
        have d2 : decide (nn ≤ 1048576) = false := decide_eq_false hle
        have HV := hide (rmore_ret (nn := nn) (res := res) (by
          have h1 := HMIN.out
          have h2 := HLE.out i
          unfold bigM at h1 ⊢
          omega))
        go_wp2_with fail
        go_ret
        exact ⟨HV.out, hEr⟩
    · obtain rfl : i = ls := by omega
      have d1 : decide (i < i) = false := decide_eq_false (by omega)
      have HV := hide (rmore_ret (nn := nn) (res := res) (by
        have h1 := HMIN.out
        have h2 := HL.out
        unfold bigM at h1 ⊢
        omega))
      go_wp2_with fail
      go_ret
      exact ⟨HV.out, hEr⟩
set_option maxRecDepth 16000 in
set_option maxHeartbeats 4000000 in
theorem rmore_base (A B : Adv) (x y : Int) (u v : Value) (w : World) (hA : AdvRep w u A) (hB : AdvRep w v B) :
    Calls Try.prog 45 #[u, v, .agg #[.int .i64 y, .int .i64 x], .int .i64 0] w fun e w' => e = .returned (.int .i64 (min (exN A B 0 (x, y)) bigM : Nat)) ∧ Ext w w' := by
  obtain ⟨p, c, rfl, -⟩ := hA.all_
  obtain ⟨q, d, rfl, -⟩ := hB.all_
  clear hA hB
  have HRE : Hid (exN A B 0 (x, y) = if x < 0 then 1 else 0) := rfl
  generalize exN A B 0 (x, y) = res at HRE ⊢
  have hE1 : Ext w (((w.alloc (.cells #[.int .i64 A.n, .slice p A.L c] 24)).alloc (.cells #[.int .i64 B.n, .slice q B.L d] 24)).alloc (.cells #[.int .i64 y, .int .i64 x] 45)) := (((Ext.refl w).alloc _).alloc _).alloc _
  go_enter Try.func45, Try.ntmps45
  by_cases hx : x < 0
  · have d1 : decide (x < 0) = true := decide_eq_true hx
    obtain rfl : res = 1 := by rw [HRE.out, if_pos hx]
    go_wp2_with fail
    go_ret
    exact ⟨rfl, hE1⟩
  · have d1 : decide (x < 0) = false := decide_eq_false hx
    obtain rfl : res = 0 := by rw [HRE.out, if_neg hx]
    go_wp2_with fail
    go_ret
    exact ⟨rfl, hE1⟩
theorem rmore_any (A B : Adv) (h0 : bothI A B = 0) : ∀ (k : Nat) (x : Int) (s : Nat) (u v : Value) (w : World), AdvRep w u A → AdvRep w v B → k ≤ 1000 → x < A.L → s < B.L →
    Calls Try.prog 45 #[u, v, .agg #[.int .i64 s, .int .i64 x], .int .i64 (k : Int)] w fun e w' => e = .returned (.int .i64 (min (exN A B k (x, (s : Int))) bigM : Nat)) ∧ Ext w w'
  | 0, x, s, u, v, w, hA, hB, _, _, _ => rmore_base A B x s u v w hA hB
  | k + 1, x, s, u, v, w, hA, hB, hk, hx, hs => by
    have hh := bothI_zero h0
    refine rmore_step A B k x s u v w hA hB hs hx (by omega) (fun i hi => ?_) (fun r => ownS_bd hh.1 hx r) (fun W hE x' t hx' ht => rmore_any A B h0 k x' t u v W (hA.ext hE) (hB.ext hE) (by omega) hx' ht)
    have hi' : i < (B.st.getD s []).length := hi
    have hm : B.mv s i ∈ B.st.getD s [] := by
      rw [show B.mv s i = (B.st.getD s [])[i] from by show (B.st.getD s []).getD i default = _; rw [List.getD_eq_getElem?_getD, List.getElem?_eq_getElem hi']; rfl]
      exact List.getElem_mem hi'
    have h1 := toL_in (okM_of hh.2.1 s) hm
    have h2 := (toL_bd hh.2.1 (s := s) hs (B.mv s i).r).2
    exact ⟨(okM_of hh.2.1 s).to _ hm, by omega⟩
set_option maxRecDepth 16000 in
set_option maxHeartbeats 4000000 in
theorem rextra_any (A B : Adv) (rounds : Int) (u v : Value) (w : World) (hA : AdvRep w u A) (hB : AdvRep w v B) :
    Calls Try.prog 24 #[u, v, .int .i64 rounds] w fun e w' => e = .returned (.tuple #[.int .i64 (extraS A B rounds).1, .int .i64 (extraS A B rounds).2]) ∧ Ext w w' := by
  have HBO := hide (fun W (hE : Ext w W) => rboth_any A B u v W (hA.ext hE) (hB.ext hE))
  have HMO : Hid (∀ W, Ext w W → bothI A B = 0 → 0 ≤ rounds → rounds ≤ 6 → Calls Try.prog 45 #[u, v, .agg #[.int .i64 0, .int .i64 0], .int .i64 rounds] W fun e w' => e = .returned (.int .i64 (min (exN A B rounds.toNat (0, 0)) bigM : Nat)) ∧ Ext W w') := fun W hE h0 h1 h2 => by
    have hh := bothI_zero h0
    have := rmore_any A B h0 rounds.toNat 0 0 u v W (hA.ext hE) (hB.ext hE) (by omega) (by have := (achk_zero hh.1).2.2.1; omega) (by have := (achk_zero hh.2.1).2.2.1; omega)
    rwa [show ((rounds.toNat : Nat) : Int) = rounds by omega] at this
  have H1 : Hid (bothI A B ≠ 0 → extraS A B rounds = (0, bothI A B)) := fun h => if_pos h
  have H2 : Hid (bothI A B = 0 → rounds < 0 ∨ 6 < rounds → extraS A B rounds = (0, 2)) := fun h k => (if_neg (fun x => x h)).trans (if_pos k)
  have H3 : Hid (bothI A B = 0 → ¬ (rounds < 0 ∨ 6 < rounds) → 1048576 < min (exN A B rounds.toNat (0, 0)) bigM → extraS A B rounds = (0, 17)) := fun h k l => (if_neg (fun x => x h)).trans ((if_neg k).trans (if_pos (by unfold bigM at *; omega)))
  have H4 : Hid (bothI A B = 0 → ¬ (rounds < 0 ∨ 6 < rounds) → ¬ 1048576 < min (exN A B rounds.toNat (0, 0)) bigM → extraS A B rounds = (((min (exN A B rounds.toNat (0, 0)) bigM : Nat) : Int), 0)) := fun h k l => (if_neg (fun x => x h)).trans ((if_neg k).trans ((if_neg (by unfold bigM at *; omega)).trans (by rw [show min (exN A B rounds.toNat (0, 0)) bigM = exN A B rounds.toNat (0, 0) from by unfold bigM at *; omega])))
  obtain ⟨p, c, rfl, -⟩ := hA.all_
  obtain ⟨q, d, rfl, -⟩ := hB.all_
  clear hA hB
  generalize bothI A B = bo at HBO HMO H1 H2 H3 H4
  have hmm : min (exN A B rounds.toNat (0, 0)) bigM ≤ 1048577 := Nat.min_le_right _ _
  generalize min (exN A B rounds.toNat (0, 0)) bigM = mm at hmm HMO H3 H4
  generalize extraS A B rounds = res at H1 H2 H3 H4 ⊢
  have HN := hide (TwoBox.new A B p c q d w)
  have HE1 := hide (((Ext.refl w).alloc (.cells #[.int .i64 A.n, .slice p A.L c] 24)).alloc (.cells #[.int .i64 B.n, .slice q B.L d] 24))
  obtain ⟨W1, hW1⟩ : ∃ W1, (w.alloc (.cells #[.int .i64 A.n, .slice p A.L c] 24)).alloc (.cells #[.int .i64 B.n, .slice q B.L d] 24) = W1 := ⟨_, rfl⟩
  rw [hW1] at HN HE1
  have HW1 := hide hW1
  clear hW1
  go_enter Try.func24, Try.ntmps24
  obtain ⟨z, hz⟩ : ∃ z, w.heap.size = z := ⟨_, rfl⟩
  rw [hz] at HN
  go_wp2_with fail
  rw [HW1.out]
  refine (HBO.out W1 HE1.out).mono ?_
  rintro e w2 ⟨rfl, hE2⟩
  have HN2 := hide (HN.out.ext hE2)
  have HE2 := hide (HE1.out.trans hE2)
  clear hE2 HN HE1 HW1 hz
  by_cases hbo : bo = 0
  · subst hbo
    by_cases hr : rounds < 0 ∨ 6 < rounds
    · obtain rfl := H2.out rfl hr
      rcases Int.lt_or_le rounds 0 with h | h
      · have d1 : decide (rounds < 0) = true := decide_eq_true h
        go_wp2_with fail
        go_ret2
        exact ⟨rfl, HE2.out⟩
      · have d1 : decide (rounds < 0) = false := decide_eq_false (by omega)
        have d2 : decide (6 < rounds) = true := decide_eq_true (by omega)
        go_wp2_with fail
        go_ret2
        exact ⟨rfl, HE2.out⟩
    · have hr1 : 0 ≤ rounds := by omega
      have hr2 : rounds ≤ 6 := by omega
      have d1 : decide (rounds < 0) = false := decide_eq_false (by omega)
      have d2 : decide (6 < rounds) = false := decide_eq_false (by omega)
      have HM := hide (HMO.out w2 HE2.out rfl hr1 hr2)
      have H3' := hide (H3.out rfl hr)
      have H4' := hide (H4.out rfl hr)
      obtain ⟨z0, a0, a1, z1, b0, b1⟩ := HN2.out.cells
      clear hr hr1 hr2
      go_wp2_with fail
      refine HM.out.mono ?_
      rintro e w3 ⟨rfl, hE3⟩
      have HE3 := hide (HE2.out.trans hE3)
      clear hE3 z0 a0 a1 z1 b0 b1
      by_cases hb : 1048576 < mm
      · have d3 : decide (1048576 < mm) = true := decide_eq_true hb
        obtain rfl := H3'.out hb
        go_wp2_with fail
        go_ret2
        exact ⟨rfl, HE3.out⟩
      · have d3 : decide (1048576 < mm) = false := decide_eq_false hb
        obtain rfl := H4'.out hb
        go_wp2_with fail
        go_ret2
        exact ⟨rfl, HE3.out⟩
  · have d1 : decide (bo = 0) = false := decide_eq_false hbo
    obtain rfl := H1.out hbo
    have hne : (bo != 0) = true := by simpa using hbo
    go_wp2_with fail
    go_ret2
    exact ⟨rfl, HE2.out⟩
end Go.Proofs.Ytmkmgimmlohamaa
