/-
  The reference's in, follows, Verify of law 20.
  Conditions: as each theorem states.
-/
import Derived.Test.YtmkmgimmlohamaaIncC
import Derived.Test.YtmkmgimmlohamaaAdvRef4
namespace Go.Proofs.Ytmkmgimmlohamaa
open Go.RowKit
attribute [local go_sem] Oper.semAt_some

set_option maxHeartbeats 1000000 in
theorem rin_any (l : List (Int × Int)) (x y : Int) (u : Value) (w : World) (hl : Row pcells 2 w u l) :
    Calls Try.prog 43 #[u, .agg #[.int .i64 x, .int .i64 y]] w fun e w' => e = .returned (.bool (decide ((x, y) ∈ l))) ∧ Ext w w' := by
  obtain ⟨p, c, rfl, hc, hll, hat⟩ := hl.pr_all
  have HA := hide hat
  clear hl hat
  have hbx := heap_alloc_new w (.cells #[.int .i64 x, .int .i64 y] 45)
  have HB := hide hbx
  have HE := hide ((Ext.refl w).alloc (.cells #[.int .i64 x, .int .i64 y] 45))
  have H1 : Hid (∀ i, i < l.length → l.getD i default = (x, y) → decide ((x, y) ∈ l) = true) := fun i hi h => decide_eq_true (by rw [← h, List.getD_eq_getElem?_getD, List.getElem?_eq_getElem hi]; exact List.getElem_mem hi)
  have H2 : Hid ((∀ i, i < l.length → l.getD i default ≠ (x, y)) → decide ((x, y) ∈ l) = false) := fun h => decide_eq_false fun hm => by
    obtain ⟨i, hi, he⟩ := List.getElem_of_mem hm
    exact h i hi (by rw [List.getD_eq_getElem?_getD, List.getElem?_eq_getElem hi]; exact he)
  clear hbx
  generalize decide ((x, y) ∈ l) = res at H1 H2 ⊢
  generalize l.length = ln at *
  generalize hf : l.getD = f at *
  clear hf
  go_enter Try.func43, Try.ntmps43
  go_wp2_with fail
  generalize w.alloc (.cells #[.int .i64 x, .int .i64 y] 45) = w1 at HB HE ⊢
  go_loopw [5] (fun v wr => ∃ i : Nat, i ≤ ln ∧ v = .int .i64 i ∧ (∀ j, j < i → f j default ≠ (x, y)) ∧ Ext w1 wr) (fun v _ => ln - (intOf v).toNat)
  case atStart => exact ⟨0, by omega, rfl, fun j hj => by omega, Ext.refl _⟩
  case round =>
    obtain ⟨i, hi, rfl, hj, hE⟩ := hrel
    have HJ := hide hj
    clear hj
    have hEr := HE.out.trans hE
    have hb1 := (hE.b.block _ (lt_of_heap HB.out)).trans HB.out
    have y0 : ∀ W, Ext wr W → W.cell? ⟨w.heap.size, 0, none⟩ = some (.int .i64 x) := fun W hW => dcell ((hW.b.block _ (lt_of_heap hb1)).trans hb1) 0
    have y1 : ∀ W, Ext wr W → W.cell? ⟨w.heap.size, 1, none⟩ = some (.int .i64 y) := fun W hW => dcell ((hW.b.block _ (lt_of_heap hb1)).trans hb1) 1
    have yz : ∀ W, Ext wr W → w.heap.size < W.heap.size := fun W hW => lt_of_heap ((hW.b.block _ (lt_of_heap hb1)).trans hb1)
    by_cases hlt : i < ln
    · obtain ⟨b1, o1, rfl, hbz, hat⟩ := HA.out (by omega)
      have HX := hide (hat i hlt)
      have hbz2 : ∀ W, Ext wr W → b1 < W.heap.size := fun W hW => Nat.lt_of_lt_of_le hbz (hEr.trans hW).size
      have HY := hide (H1.out i hlt)
      have HN : Hid (f i default ≠ (x, y) → ∀ j, j < i + 1 → f j default ≠ (x, y)) := fun h j hj => by
        by_cases e : j = i
        · subst e; exact h
        · exact HJ.out j (by omega)
      clear hat
      generalize f i default = m at HX HY HN
      obtain ⟨m1, m2⟩ := m
      have HQ : Hid ((m1 == x && m2 == y) = true ↔ ((m1, m2) : Int × Int) = (x, y)) := by
        show _ ↔ _
        rw [Bool.and_eq_true, beq_iff_eq, beq_iff_eq, Prod.mk.injEq]
      have heq := peq_pair m1 m2 x y
      have x0 : ∀ W, Ext wr W → W.cell? ⟨b1, o1 + i * 2, none⟩ = some (.int .i64 m1) := fun W hW => (HX.out W (hEr.trans hW)).1
      have x1 : ∀ W, Ext wr W → W.cell? ⟨b1, o1 + i * 2 + 1, none⟩ = some (.int .i64 m2) := fun W hW => (HX.out W (hEr.trans hW)).2
      generalize (m1 == x && m2 == y) = g at heq HQ
      clear HX hbz hb1
      go_wp2_with fail
      refine wp_region_ext (by kernel_rfl) (by kernel_rfl) ?_
      repeat (go_big_quiet_step (fail))
      refine wpQuiet_nil ?_
      rintro w9 ⟨⟨_, hE9⟩, rfl⟩
      clear heq x0 x1 y0 y1 yz hbz2
      cases g
      · have HR := hide (HN.out (fun h => by have := HQ.out.2 h; cases this))
        go_wp2
        go_roundw
        case rel => exact ⟨i + 1, by omega, by go_num, HR.out, hE.trans hE9⟩
        case measure => simp [intOf]; omega
      · have HR := hide (HY.out (HQ.out.1 rfl))
        go_wp2
        go_ret
        exact ⟨ret_bool HR.out.symm, hEr.trans hE9⟩
    · obtain rfl : i = ln := by omega
      have HR := hide (H2.out HJ.out)
      clear y0 y1 yz
      go_wp2_with fail
      go_ret
      exact ⟨ret_bool HR.out.symm, hEr⟩
theorem fol_zero {A B : Adv} {prs : List (Int × Int)} {s t i : Nat} (hi : i < B.len s) (h : (decide (0 ≤ toL (A.st.getD t []) (B.mv s i).r) && decide (((B.mv s i).to, toL (A.st.getD t []) (B.mv s i).r) ∈ prs)) = false) : folB A B prs ((s : Int), (t : Int)) = false := by
  unfold folB
  rw [List.all_eq_false]
  have hi' : i < (B.st.getD s []).length := hi
  refine ⟨B.mv s i, ?_, ?_⟩
  · rw [show B.mv s i = (B.st.getD s [])[i] from by show (B.st.getD s []).getD i default = _; rw [List.getD_eq_getElem?_getD, List.getElem?_eq_getElem hi']; rfl]
    simp only [Int.toNat_natCast]
    exact List.getElem_mem hi'
  · simp only [Int.toNat_natCast]
    rw [h]; decide
theorem fol_one {A B : Adv} {prs : List (Int × Int)} {s t : Nat} (h : ∀ i, i < B.len s → (decide (0 ≤ toL (A.st.getD t []) (B.mv s i).r) && decide (((B.mv s i).to, toL (A.st.getD t []) (B.mv s i).r) ∈ prs)) = true) : folB A B prs ((s : Int), (t : Int)) = true := by
  unfold folB
  rw [List.all_eq_true]
  simp only [Int.toNat_natCast]
  intro m hm
  obtain ⟨i, hi, rfl⟩ := List.getElem_of_mem hm
  have := h i hi
  rwa [show B.mv s i = (B.st.getD s [])[i] from by show (B.st.getD s []).getD i default = _; rw [List.getD_eq_getElem?_getD, List.getElem?_eq_getElem hi]; rfl] at this
set_option maxRecDepth 16000 in
set_option maxHeartbeats 2000000 in
theorem rfollows_any (A B : Adv) (prs : List (Int × Int)) (s t : Nat) (u v pv : Value) (w : World) (hA : AdvRep w u A) (hB : AdvRep w v B) (hP : Row pcells 2 w pv prs) (hs : s < B.L) (ht : t < A.L) :
    Calls Try.prog 44 #[u, v, pv, .agg #[.int .i64 s, .int .i64 t]] w fun e w' => e = .returned (.bool (folB A B prs ((s : Int), (t : Int)))) ∧ Ext w w' := by
  have HT := hide (fun W (hE : Ext w W) r => rto_any A u t r W (hA.ext hE) ht)
  have HI := hide (fun W (hE : Ext w W) x y => rin_any prs x y pv W (hP.ext hE))
  obtain ⟨p, c, rfl, -⟩ := hA.all_
  obtain ⟨q, d, rfl, -, -, hatB⟩ := hB.all_
  obtain ⟨ps, pk, rfl, -⟩ := hP.pr_all
  obtain ⟨bb, ob, rfl, hbb, hsb⟩ := hatB (by omega)
  obtain ⟨qb, db, hcb, -, hlb, -, hmv⟩ := hsb s hs
  have H1 := hide (fun i hi => fol_zero (A := A) (B := B) (prs := prs) (s := s) (t := t) (i := i) hi)
  have H2 := hide (fol_one (A := A) (B := B) (prs := prs) (s := s) (t := t))
  have HMV := hide hmv
  clear hA hB hP hatB hsb hmv
  generalize folB A B prs ((s : Int), (t : Int)) = res at H1 H2 ⊢
  have HN := hide (TwoBox.new A B p c (some ⟨bb, ob, none⟩) d w)
  have HE0 := hide (((Ext.refl w).alloc (.cells #[.int .i64 A.n, .slice p A.L c] 24)).alloc (.cells #[.int .i64 B.n, .slice (some ⟨bb, ob, none⟩) B.L d] 24))
  have hz2 : ((w.alloc (.cells #[.int .i64 A.n, .slice p A.L c] 24)).alloc (.cells #[.int .i64 B.n, .slice (some ⟨bb, ob, none⟩) B.L d] 24)).heap.size = w.heap.size + 1 + 1 := by simp
  obtain ⟨W0, hW0⟩ : ∃ W0, (w.alloc (.cells #[.int .i64 A.n, .slice p A.L c] 24)).alloc (.cells #[.int .i64 B.n, .slice (some ⟨bb, ob, none⟩) B.L d] 24) = W0 := ⟨_, rfl⟩
  rw [hW0] at HN HE0 hz2
  have HPB := hide (heap_alloc_new W0 (.cells #[.int .i64 s, .int .i64 t] 45))
  have HN1 := hide (HN.out.ext ((Ext.refl W0).alloc (.cells #[.int .i64 s, .int .i64 t] 45)))
  have HE1 := hide (HE0.out.alloc (.cells #[.int .i64 s, .int .i64 t] 45))
  rw [hz2] at HPB
  have HWW : Hid ((w.alloc (.cells #[.int .i64 A.n, .slice p A.L c] 24)).alloc (.cells #[.int .i64 B.n, .slice (some ⟨bb, ob, none⟩) B.L d] 24) = W0) := hW0
  have hlB : (s : Int) < (B.L : Int) := by omega
  clear HN HE0 hz2 hW0
  generalize hls : B.len s = ls at *
  generalize hmf : B.mv s = mf at H1 H2 HMV
  clear hls hmf
  go_enter Try.func44, Try.ntmps44
  go_upto_region 1 with fail
  rw [HWW.out]
  generalize W0.alloc (.cells #[.int .i64 s, .int .i64 t] 45) = w1 at HPB HN1 HE1 ⊢
  clear HWW W0
  obtain ⟨z, hz⟩ : ∃ z, w.heap.size = z := ⟨_, rfl⟩
  rw [hz] at HPB HN1
  rw [hz]
  clear hz
  obtain ⟨z0, a0, a1, z1, b0, b1⟩ := HN1.out.cells
  have c0 := dcell HPB.out 0
  have cz := lt_of_heap HPB.out
  have x0 := hcb _ HE1.out
  have xz : bb < w1.heap.size := Nat.lt_of_lt_of_le hbb HE1.out.size
  clear hcb hbb
  go_wp2_with fail
  clear z0 a0 a1 z1 b0 b1 c0 cz x0 xz
  go_loopw [10] (fun v wr => ∃ i : Nat, i ≤ ls ∧ v = .int .i64 i ∧ (∀ j, j < i → (decide (0 ≤ toL (A.st.getD t []) (mf j).r) && decide (((mf j).to, toL (A.st.getD t []) (mf j).r) ∈ prs)) = true) ∧ Ext w1 wr) (fun v _ => ls - (intOf v).toNat)
  case atStart => exact ⟨0, by omega, rfl, fun j hj => by omega, Ext.refl _⟩
  case round =>
    obtain ⟨i, hi, rfl, hj, hE⟩ := hrel
    have HJ := hide hj
    clear hj
    have hEr := HE1.out.trans hE
    have HNR := hide (HN1.out.ext hE)
    have hb1 := (hE.b.block _ (lt_of_heap HPB.out)).trans HPB.out
    by_cases hlt : i < ls
    · obtain ⟨b2, o2, rfl, hb2, hmv⟩ := HMV.out (by omega)
      obtain ⟨m0, m1, m2, m3, m4, m5, m6, m7⟩ := hmv i hlt
      clear hmv
      have h0 : ∀ W, Ext wr W → W.cell? ⟨z, 0, none⟩ = some (.int .i64 A.n) := fun W hW => (HNR.out.ext hW).cells.2.1
      have h1 : ∀ W, Ext wr W → W.cell? ⟨z, 1, none⟩ = some (.slice p A.L c) := fun W hW => (HNR.out.ext hW).cells.2.2.1
      have h2 : ∀ W, Ext wr W → z < W.heap.size := fun W hW => (HNR.out.ext hW).cells.1
      have h3 : ∀ W, Ext wr W → W.cell? ⟨z + 1 + 1, 1, none⟩ = some (.int .i64 t) := fun W hW => dcell ((hW.b.block _ (lt_of_heap hb1)).trans hb1) 1
      have h4 : ∀ W, Ext wr W → z + 1 + 1 < W.heap.size := fun W hW => lt_of_heap ((hW.b.block _ (lt_of_heap hb1)).trans hb1)
      have n0 : ∀ W, Ext wr W → W.cell? ⟨b2, o2 + i * 8, none⟩ = some (.int .i64 (mf i).r.g.n) := fun W hW => m0 W (hEr.trans hW)
      have n1 : ∀ W, Ext wr W → W.cell? ⟨b2, o2 + i * 8 + 1, none⟩ = some (.int .i64 (mf i).r.g.h0) := fun W hW => m1 W (hEr.trans hW)
      have n2 : ∀ W, Ext wr W → W.cell? ⟨b2, o2 + i * 8 + 2, none⟩ = some (.int .i64 (mf i).r.g.h1) := fun W hW => m2 W (hEr.trans hW)
      have n3 : ∀ W, Ext wr W → W.cell? ⟨b2, o2 + i * 8 + 3, none⟩ = some (.int .i64 (mf i).r.g.h2) := fun W hW => m3 W (hEr.trans hW)
      have n4 : ∀ W, Ext wr W → W.cell? ⟨b2, o2 + i * 8 + 4, none⟩ = some (.int .i64 (mf i).r.g.h3) := fun W hW => m4 W (hEr.trans hW)
      have n5 : ∀ W, Ext wr W → W.cell? ⟨b2, o2 + i * 8 + 5, none⟩ = some (.int .i64 (mf i).r.g.h4) := fun W hW => m5 W (hEr.trans hW)
      have n6 : ∀ W, Ext wr W → W.cell? ⟨b2, o2 + i * 8 + 6, none⟩ = some (.int .i64 (mf i).r.f) := fun W hW => m6 W (hEr.trans hW)
      have HM7 := hide m7
      have hz2 : ∀ W, Ext wr W → b2 < W.heap.size := fun W hW => Nat.lt_of_lt_of_le hb2 (hEr.trans hW).size
      have HTT := hide (fun W hE => HT.out W hE (mf i).r)
      have HF := hide (H1.out i hlt)
      have HG : Hid ((decide (0 ≤ toL (A.st.getD t []) (mf i).r) && decide (((mf i).to, toL (A.st.getD t []) (mf i).r) ∈ prs)) = true → ∀ j, j < i + 1 → (decide (0 ≤ toL (A.st.getD t []) (mf j).r) && decide (((mf j).to, toL (A.st.getD t []) (mf j).r) ∈ prs)) = true) := fun h j hj => by
        by_cases e : j = i
        · subst e; exact h
        · exact HJ.out j (by omega)
      generalize toL (A.st.getD t []) (mf i).r = tt at HTT HF HG
      generalize mf i = m at n0 n1 n2 n3 n4 n5 n6 HM7 HTT HF HG
      obtain ⟨⟨⟨mn, ma, mb, mc, md, me⟩, mg⟩, mt⟩ := m
      dsimp only [Rd.v] at n0 n1 n2 n3 n4 n5 n6 HTT
      have hd1 : decide (i < ls) = true := decide_eq_true hlt
      clear m0 m1 m2 m3 m4 m5 m6 m7 hb1
      go_wp2_with fail
      refine wp_region_ext (by kernel_rfl) (by kernel_rfl) ?_
      repeat (go_big_quiet_step ((go_at_call 63; exact Calls.ext_of (HTT.out _ (hEr.trans (ExtOf.h _))))))
      refine wpQuiet_nil ?_
      rintro w9 ⟨⟨_, hE9⟩, rfl⟩
      have hE19 := hE.trans hE9
      have hE09 := hEr.trans hE9
      have x7 := HM7.out w9 hE09
      have xz := hz2 w9 hE9
      clear h0 h1 h2 h3 h4 n0 n1 n2 n3 n4 n5 n6 hz2 hE9 HNR
      by_cases hto : tt < 0
      · have d1 : decide (tt < 0) = true := decide_eq_true hto
        have HR := hide (HF.out (by rw [decide_eq_false (show ¬ 0 ≤ tt by omega)]; rfl))
        clear hto
        go_wp2_with fail
        go_ret
        exact ⟨ret_bool HR.out.symm, hE09⟩
      · have d1 : decide (tt < 0) = false := decide_eq_false hto
        have HII := hide (HI.out w9 hE09 mt tt)
        have d2 : decide (0 ≤ tt) = true := decide_eq_true (by omega)
        rw [d2, Bool.true_and] at HF HG
        have HF2 := hide HF.out
        have HG2 := hide HG.out
        clear HF HG hto d2
        try dsimp only at x7
        generalize decide ((mt, tt) ∈ prs) = g at HII HF2 HG2
        go_wp2_with fail
        refine HII.out.mono ?_
        rintro e w10 ⟨rfl, hE10⟩
        have hE20 := hE19.trans hE10
        have hE30 := hE09.trans hE10
        clear x7 xz hE10
        cases g
        · have HR := hide (HF2.out rfl)
          go_wp2_with fail
          go_ret
          exact ⟨ret_bool HR.out.symm, hE30⟩
        · have HR := hide (HG2.out rfl)
          go_wp2_with fail
          go_roundw
          case rel => exact ⟨i + 1, by omega, by go_num, HR.out, hE20⟩
          case measure => simp [intOf]; omega
    · obtain rfl : i = ls := by omega
      have HR := hide (H2.out HJ.out)
      go_wp2_with fail
      go_ret
      exact ⟨ret_bool HR.out.symm, hEr⟩
set_option maxRecDepth 16000 in
set_option maxHeartbeats 4000000 in
theorem rverify_any (A B : Adv) (prs : List (Int × Int)) (u v pv : Value) (w : World) (hA : AdvRep w u A) (hB : AdvRep w v B) (hP : Row pcells 2 w pv prs) :
    Calls Try.prog 21 #[u, v, pv] w fun e w' => e = .returned (.int .i64 (verS A B prs)) ∧ Ext w w' := by
  have HFO := hide (fun W (hE : Ext w W) s t hs ht => rfollows_any A B prs s t u v pv W (hA.ext hE) (hB.ext hE) (hP.ext hE) hs ht)
  have HIN := hide (fun W (hE : Ext w W) x y => rin_any prs x y pv W (hP.ext hE))
  have HBO := hide (fun W (hE : Ext w W) => rboth_any A B u v W (hA.ext hE) (hB.ext hE))
  obtain ⟨p, c, rfl, -⟩ := hA.all_
  obtain ⟨q, d, rfl, -⟩ := hB.all_
  obtain ⟨ps, k, rfl, hpk, hpl, hpat⟩ := hP.pr_all
  have HPAT := hide hpat
  clear hA hB hP hpat
  have HN := hide (TwoBox.new A B p c q d w)
  have HE1 := hide (((Ext.refl w).alloc (.cells #[.int .i64 A.n, .slice p A.L c] 24)).alloc (.cells #[.int .i64 B.n, .slice q B.L d] 24))
  obtain ⟨W1, hW1⟩ : ∃ W1, (w.alloc (.cells #[.int .i64 A.n, .slice p A.L c] 24)).alloc (.cells #[.int .i64 B.n, .slice q B.L d] 24) = W1 := ⟨_, rfl⟩
  rw [hW1] at HN HE1
  have HW1 := hide hW1
  clear hW1
  go_enter Try.func21, Try.ntmps21
  obtain ⟨z, hz⟩ : ∃ z, w.heap.size = z := ⟨_, rfl⟩
  rw [hz] at HN
  go_wp2_with fail
  rw [HW1.out]
  refine (HBO.out W1 HE1.out).mono ?_
  rintro e w2 ⟨rfl, hE2⟩
  have HN2 := hide (HN.out.ext hE2)
  have HE2 := hide (HE1.out.trans hE2)
  clear hE2 HN HE1 HW1 hz
  by_cases hb : bothI A B = 0
  case neg =>
    have hd : (bothI A B != 0) = true := by simp [hb]
    have HR : Hid (verS A B prs = bothI A B) := verS_err hb
    clear hb
    generalize bothI A B = res at hd HR ⊢
    go_wp2_with fail
    go_ret
    exact ⟨ret_int HR.out.symm, HE2.out⟩
  case pos =>
  have HB0 := hide hb
  rw [hb]
  clear hb
  by_cases hl : 65536 < prs.length
  · have hd : decide ((65536 : Int) < (prs.length : Int)) = true := decide_eq_true (by omega)
    have HR : Hid (verS A B prs = 5) := verS_many HB0.out hl
    clear hl
    go_wp2_with fail
    go_ret
    exact ⟨ret_int HR.out.symm, HE2.out⟩
  have hd : decide ((65536 : Int) < (prs.length : Int)) = false := decide_eq_false (by omega)
  have HL := hide hl
  have hl5 : prs.length ≤ 65536 := by omega
  clear hl
  go_wp2_with fail
  go_loopw [8] (fun v wr => ∃ i : Nat, i ≤ prs.length ∧ v = .int .i64 i ∧ Hid (Ext w2 wr) ∧ Hid (∀ p ∈ prs.take i, inbB A B p = true)) (fun v _ => prs.length - (intOf v).toNat)
  case atStart => exact ⟨0, by omega, rfl, Ext.refl _, fun p h => by simp at h⟩
  case round =>
    obtain ⟨i, hi, rfl, HE, HI⟩ := hrel
    have HNR := hide (HN2.out.ext HE.out)
    have HER : Hid (Ext w wr) := HE2.out.trans HE.out
    have hd1 : decide (i < prs.length) = decide (i < prs.length) := rfl
    clear hd1
    by_cases hlt : i < prs.length
    · obtain ⟨z0, a0, a1, z1, b0, b1⟩ := HNR.out.cells
      obtain ⟨pb, po, rfl, hpz, hpc⟩ := HPAT.out (by omega)
      obtain ⟨c0, c1⟩ := hpc i hlt wr HER.out
      have pz : pb < wr.heap.size := Nat.lt_of_lt_of_le hpz HER.out.size
      have hmem : prs.getD i default ∈ prs := by rw [List.getD_eq_getElem?_getD, List.getElem?_eq_getElem hlt]; exact List.getElem_mem hlt
      have htk : prs.take (i + 1) = prs.take i ++ [prs.getD i default] := by rw [List.take_add_one, List.getD_eq_getElem?_getD, List.getElem?_eq_getElem hlt]; rfl
      have HMEM := hide hmem
      have HTK := hide htk
      clear hpc hpz hmem htk
      have HINB : Hid (inbB A B (prs.getD i default) = decide (0 ≤ (prs.getD i default).1 ∧ (prs.getD i default).1 < B.L ∧ 0 ≤ (prs.getD i default).2 ∧ (prs.getD i default).2 < A.L)) := rfl
      obtain ⟨P, hP⟩ : ∃ P, prs.getD i default = P := ⟨_, rfl⟩
      rw [hP] at c0 c1 HMEM HTK HINB
      clear hP
      obtain ⟨x, y⟩ := P
      dsimp only at c0 c1 HINB
      have HRG0 : Hid (inbB A B (x, y) = false → verS A B prs = 2) := fun h => verS_range HB0.out HL.out HMEM.out h
      by_cases hx0 : x < 0
      · have d0 : decide (x < 0) = true := decide_eq_true hx0
        have HRG := hide (HRG0.out (by rw [HINB.out]; exact decide_eq_false (by omega)))
        clear hx0 HINB
        go_wp2_with fail
        go_ret
        exact ⟨ret_int HRG.out.symm, HER.out.alloc _⟩
      have d0 : decide (x < 0) = false := decide_eq_false hx0
      by_cases hx1 : (B.L : Int) ≤ x
      · have d1 : decide ((B.L : Int) ≤ x) = true := decide_eq_true hx1
        have HRG := hide (HRG0.out (by rw [HINB.out]; exact decide_eq_false (by omega)))
        clear hx0 hx1 HINB
        go_wp2_with fail
        go_ret
        exact ⟨ret_int HRG.out.symm, HER.out.alloc _⟩
      have d1 : decide ((B.L : Int) ≤ x) = false := decide_eq_false hx1
      by_cases hy0 : y < 0
      · have d2 : decide (y < 0) = true := decide_eq_true hy0
        have HRG := hide (HRG0.out (by rw [HINB.out]; exact decide_eq_false (by omega)))
        clear hx0 hx1 hy0 HINB
        go_wp2_with fail
        go_ret
        exact ⟨ret_int HRG.out.symm, HER.out.alloc _⟩
      have d2 : decide (y < 0) = false := decide_eq_false hy0
      by_cases hy1 : (A.L : Int) ≤ y
      · have d3 : decide ((A.L : Int) ≤ y) = true := decide_eq_true hy1
        have HRG := hide (HRG0.out (by rw [HINB.out]; exact decide_eq_false (by omega)))
        clear hx0 hx1 hy0 hy1 HINB
        go_wp2_with fail
        go_ret
        exact ⟨ret_int HRG.out.symm, HER.out.alloc _⟩
      have d3 : decide ((A.L : Int) ≤ y) = false := decide_eq_false hy1
      have HIN2 : Hid (inbB A B (x, y) = true) := by
        show _ = _
        rw [HINB.out]; exact decide_eq_true (by omega)
      clear hx0 hx1 hy0 hy1 HINB
      go_wp2_with fail
      go_roundw
      case rel =>
        refine ⟨i + 1, by omega, by go_num, HE.out.alloc _, fun p hp => ?_⟩
        rw [HTK.out] at hp
        rcases List.mem_append.1 hp with hp | hp
        · exact HI.out p hp
        · rw [List.mem_singleton.1 hp]; exact HIN2.out
      case measure => simp [intOf]; omega
    · obtain rfl : i = prs.length := by omega
      have htk : prs.take prs.length = prs := List.take_length
      have HI1 : Hid (∀ p ∈ prs, inbB A B p = true) := by have := HI.out; rwa [htk] at this
      clear htk HI hi hlt
      go_wp2_with fail
      refine (HIN.out wr HER.out 0 0).mono ?_
      rintro e w3 ⟨rfl, hE3⟩
      have HE3 := hide (HER.out.trans hE3)
      have HN3 := hide (HNR.out.ext hE3)
      clear hE3 HNR HER HE
      by_cases h0 : ((0 : Int), (0 : Int)) ∈ prs
      case neg =>
        rw [decide_eq_false h0]
        have HR := hide (verS_start HB0.out HL.out HI1.out h0)
        clear h0
        go_wp2_with fail
        go_ret
        exact ⟨ret_int HR.out.symm, HE3.out⟩
      case pos =>
      rw [decide_eq_true h0]
      have H0 := hide h0
      clear h0
      clear wr
      go_wp2_with fail
      go_loopw [10] (fun v wr => ∃ i : Nat, i ≤ prs.length ∧ v = .int .i64 i ∧ Hid (Ext w3 wr) ∧ Hid (∀ p ∈ prs.take i, folB A B prs p = true)) (fun v _ => prs.length - (intOf v).toNat)
      case atStart => exact ⟨0, by omega, rfl, Ext.refl _, fun p h => by simp at h⟩
      case round =>
        obtain ⟨i, hi, rfl, HE, HI⟩ := hrel
        have HNR := hide (HN3.out.ext HE.out)
        have HER : Hid (Ext w wr) := HE3.out.trans HE.out
        by_cases hlt : i < prs.length
        · obtain ⟨pb, po, rfl, hpz, hpc⟩ := HPAT.out (by omega)
          have HPC := hide (hpc i hlt)
          have hmem : prs.getD i default ∈ prs := by rw [List.getD_eq_getElem?_getD, List.getElem?_eq_getElem hlt]; exact List.getElem_mem hlt
          have htk : prs.take (i + 1) = prs.take i ++ [prs.getD i default] := by rw [List.take_add_one, List.getD_eq_getElem?_getD, List.getElem?_eq_getElem hlt]; rfl
          have hin := inb_of (HI1.out _ hmem)
          have HMEM := hide hmem
          have HTK := hide htk
          clear hpc hmem htk
          obtain ⟨P, hP⟩ : ∃ P, prs.getD i default = P := ⟨_, rfl⟩
          rw [hP] at HPC HMEM HTK hin
          clear hP
          obtain ⟨x, y⟩ := P
          obtain ⟨hx0, hx1, hy0, hy1⟩ := hin
          obtain ⟨s, rfl⟩ := Int.eq_ofNat_of_zero_le hx0
          obtain ⟨t, rfl⟩ := Int.eq_ofNat_of_zero_le hy0
          have hs : s < B.L := by have : (s : Int) < B.L := hx1; omega
          have ht : t < A.L := by have : (t : Int) < A.L := hy1; omega
          have HFF := hide (fun W hE => HFO.out W hE s t hs ht)
          have HBAD : Hid (folB A B prs ((s : Int), (t : Int)) = false → verS A B prs = 18) := fun h => verS_proof HB0.out HL.out HI1.out H0.out HMEM.out h
          have HGOOD : Hid (folB A B prs ((s : Int), (t : Int)) = true → ∀ p ∈ prs.take (i + 1), folB A B prs p = true) := fun h p hp => by
            rw [HTK.out] at hp
            rcases List.mem_append.1 hp with hp | hp
            · exact HI.out p hp
            · rw [List.mem_singleton.1 hp]; exact h
          have n0 : ∀ W, Ext wr W → W.cell? ⟨pb, po + i * 2, none⟩ = some (.int .i64 s) := fun W hW => (HPC.out W (HER.out.trans hW)).1
          have n1 : ∀ W, Ext wr W → W.cell? ⟨pb, po + i * 2 + 1, none⟩ = some (.int .i64 t) := fun W hW => (HPC.out W (HER.out.trans hW)).2
          have nz : ∀ W, Ext wr W → pb < W.heap.size := fun W hW => Nat.lt_of_lt_of_le hpz (HER.out.trans hW).size
          have h0 : ∀ W, Ext wr W → W.cell? ⟨z, 0, none⟩ = some (.int .i64 A.n) := fun W hW => (HNR.out.ext hW).cells.2.1
          have h1 : ∀ W, Ext wr W → W.cell? ⟨z, 1, none⟩ = some (.slice p A.L c) := fun W hW => (HNR.out.ext hW).cells.2.2.1
          have h2 : ∀ W, Ext wr W → z < W.heap.size := fun W hW => (HNR.out.ext hW).cells.1
          have h3 : ∀ W, Ext wr W → W.cell? ⟨z + 1, 0, none⟩ = some (.int .i64 B.n) := fun W hW => (HNR.out.ext hW).cells.2.2.2.2.1
          have h4 : ∀ W, Ext wr W → W.cell? ⟨z + 1, 1, none⟩ = some (.slice q B.L d) := fun W hW => (HNR.out.ext hW).cells.2.2.2.2.2
          have h5 : ∀ W, Ext wr W → z + 1 < W.heap.size := fun W hW => (HNR.out.ext hW).cells.2.2.2.1
          clear hx0 hx1 hy0 hy1 hs ht hpz
          generalize folB A B prs ((s : Int), (t : Int)) = g at HFF HBAD HGOOD
          go_wp2_with fail
          refine wp_region_ext (by kernel_rfl) (by kernel_rfl) ?_
          repeat (go_big_quiet_step ((go_at_call 44; exact Calls.ext_of (HFF.out _ (HER.out.trans (ExtOf.h _))))))
          refine wpQuiet_nil ?_
          rintro w9 ⟨⟨_, hE9⟩, rfl⟩
          have HE9 := hide (HE.out.trans hE9)
          have HF9 := hide (HER.out.trans hE9)
          clear n0 n1 nz h0 h1 h2 h3 h4 h5 hE9
          cases g
          · have HR := hide (HBAD.out rfl)
            go_wp2_with fail
            go_ret
            exact ⟨ret_int HR.out.symm, HF9.out⟩
          · have HR := hide (HGOOD.out rfl)
            go_wp2_with fail
            go_roundw
            case rel => exact ⟨i + 1, by omega, by go_num, HE9.out, HR.out⟩
            case measure => simp [intOf]; omega
        · obtain rfl : i = prs.length := by omega
          have htk : prs.take prs.length = prs := List.take_length
          have HR : Hid (verS A B prs = 0) := verS_ok HB0.out HL.out HI1.out H0.out (by have := HI.out; rwa [htk] at this)
          clear htk
          go_wp2_with fail
          go_ret
          exact ⟨ret_int HR.out.symm, HER.out⟩
end Go.Proofs.Ytmkmgimmlohamaa
