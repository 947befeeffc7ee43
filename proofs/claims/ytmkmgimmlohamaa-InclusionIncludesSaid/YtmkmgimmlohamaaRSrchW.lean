/-
  The reference's search of law 20, walked.
  Conditions: as each theorem states.
-/
import Derived.Test.YtmkmgimmlohamaaRSrch
import Derived.OwnWalk
namespace Go.Proofs.Ytmkmgimmlohamaa
open Go.RowKit
attribute [local go_sem] Oper.semAt_some

/-- What the reference's search returns: the least word that ends in a mark, or all nodes. -/
def RetRs (A B : Adv) (w : World) (en : Ending) (w' : World) : Prop :=
  Ext w w' ∧ ((∃ v word, en = .returned (.tuple #[v, .bool true, .slice none 0 0]) ∧ RowE 43 Rd.cells 7 w' v word ∧ markA (actP dI A B) (0, 0) word ∧ ∀ u, markA (actP dI A B) (0, 0) u → Wle word u) ∨
    (∃ v l, en = .returned (.tuple #[.slice none 0 0, .bool false, v]) ∧ NodeC w' w.heap.size v l ∧ Full (act := actP dI A B) (0, 0) l ∧ l.length ≤ 65536))
/-- At the head of the outer loop. -/
def SrO (A B : Adv) (l : List ((Nat × Nat) × List Rd)) (i : Nat) : Prop := (∃ p, BkS A B l i 0 p) ∨ (i = l.length ∧ Full (act := actP dI A B) (0, 0) l ∧ l.length ≤ 65536)
set_option maxRecDepth 16000 in
set_option maxHeartbeats 8000000 in
theorem rsearch_any (A B : Adv) (u v : Value) (w : World) (hA : AdvRep w u A) (hB : AdvRep w v B) (h1 : achk A = 0) (h2 : achk B = 0) :
    Calls Try.prog 55 #[u, v] w (RetRs A B w) := by
  have HT := hide (fun W (hE : Ext w W) s r (hs : s < A.L) => rto_any A u s r W (hA.ext hE) hs)
  have HH1 := hide h1
  have HH2 := hide h2
  have HOKB := hide (fun s => okM_of h2 s)
  have HBD : Hid (∀ t k, t < B.L → k < B.len t → (B.mv t k).to.toNat < B.L ∧ 0 ≤ (B.mv t k).to) := fun t k ht hk => by
    have hk' : k < (B.st.getD t []).length := hk
    have hm : B.mv t k ∈ B.st.getD t [] := by
      rw [show B.mv t k = (B.st.getD t [])[k] from by show (B.st.getD t []).getD k default = _; rw [List.getD_eq_getElem?_getD, List.getElem?_eq_getElem hk']; rfl]
      exact List.getElem_mem hk'
    have e1 := toL_in (okM_of h2 t) hm
    have e2 := (toL_bd h2 (s := t) ht (B.mv t k).r).2
    have e3 := (okM_of h2 t).to _ hm
    omega
  have HBL : Hid (B.L ≤ 256) := (achk_zero h2).2.2.2.1
  have HAL : Hid (A.L ≤ 256) := (achk_zero h1).2.2.2.1
  obtain ⟨p, c, rfl, -⟩ := hA.all_
  obtain ⟨q, d, rfl, -, -, hatB⟩ := hB.all_
  have hLB : 0 < B.L := (achk_zero h2).2.2.1
  obtain ⟨bb, ob, rfl, hbb, hsb⟩ := hatB hLB
  have HSB := hide hsb
  clear hA hB hatB hsb h1 h2
  have HN0 := hide (TwoBox.new A B p c (some ⟨bb, ob, none⟩) d w)
  have HE0 := hide (((Ext.refl w).alloc (.cells #[.int .i64 A.n, .slice p A.L c] 24)).alloc (.cells #[.int .i64 B.n, .slice (some ⟨bb, ob, none⟩) B.L d] 24))
  obtain ⟨W1, hW1⟩ : ∃ W1, (w.alloc (.cells #[.int .i64 A.n, .slice p A.L c] 24)).alloc (.cells #[.int .i64 B.n, .slice (some ⟨bb, ob, none⟩) B.L d] 24) = W1 := ⟨_, rfl⟩
  have hsz : W1.heap.size = w.heap.size + 2 := by rw [← hW1]; simp
  rw [hW1] at HN0 HE0
  have HSZ := hide hsz
  have HW1 := hide hW1
  clear hW1 hsz
  obtain ⟨W2, hW2⟩ : ∃ W2, W1.alloc (.cells #[.int .i64 0, .int .i64 0, .slice none 0 0] 113) = W2 := ⟨_, rfl⟩
  have HNC0 := hide (NodeC.start W1)
  have HE20 := hide ((Ext.refl W1).alloc (.cells #[.int .i64 0, .int .i64 0, .slice none 0 0] 113))
  rw [hW2] at HNC0 HE20
  have HW2 := hide hW2
  clear hW2
  go_enter Try.func55, Try.ntmps55
  go_upto_region 1 with fail
  rw [HW1.out]
  go_upto_region 2 with fail
  rw [HW2.out]
  obtain ⟨z, hz⟩ : ∃ z, w.heap.size = z := ⟨_, rfl⟩
  rw [hz] at HN0
  rw [hz]
  go_wp2_with fail
  go_loopw [7, 8, 9, 10, 11, 12, 13] (fun ul vi _ _ _ _ _ wr => ∃ (i : Nat) (l : List ((Nat × Nat) × List Rd)) (pu : Option Addr) (cu : Nat), vi = .int .i64 i ∧ ul = .slice pu l.length cu ∧ i ≤ 65536 ∧ l.length ≤ 65536 ∧ i ≤ l.length ∧ Hid (NodeC wr W1.heap.size (.slice pu l.length cu) l) ∧ Hid (SrO A B l i) ∧ Ext W1 wr) (fun _ vi _ _ _ _ _ _ => 65537 - (intOf vi).toNat)
  case atStart => exact ⟨0, [((0, 0), [])], _, _, rfl, rfl, by omega, by simp, by simp, HNC0, .inl ⟨_, BkS.start HH1.out HH2.out⟩, HE20.out⟩
  case round =>
    obtain ⟨i, l, pu, cu, rfl, rfl, hi, hll, hil, HNC, HSR, hE⟩ := hrel
    clear HNC0 HE20 HW1 HW2
    have HEr := hide (HE0.out.trans hE)
    have HNr := hide (HN0.out.ext hE)
    by_cases hlt : i < l.length
    · have hbk : ∃ pn, BkS A B l i 0 pn := by
        rcases HSR.out with h | ⟨h, _⟩
        · exact h
        · omega
      clear HSR
      obtain ⟨⟨⟨sa, sb⟩, word⟩, hbk⟩ := hbk
      have HBK := hide hbk
      have hsa : sa < A.L := hbk.p_in.1
      have hsb : sb < B.L := hbk.p_in.2
      obtain ⟨g, cg, vw, hu, hg, -, hcell⟩ := HNC.out.at_ hbk.at_
      injection hu with hu1 _ hu2
      subst hu1 hu2
      obtain ⟨qb, db, hcb, -, hlb, -, hmv⟩ := HSB.out sb hsb
      have HMV := hide hmv
      have HMK := hide (fun l k (h : BkS A B l i k ((sa, sb), word)) (hk : k < B.len sb) (ht : toL (A.st.getD sa []) (B.mv sb k).r < 0) => h.mark HH1.out HH2.out hk ht)
      have HSK := hide (fun l k (h : BkS A B l i k ((sa, sb), word)) (hk : k < B.len sb) (ht : ¬ toL (A.st.getD sa []) (B.mv sb k).r < 0) hq => h.skip HH1.out HH2.out hk ht hq)
      have HAD := hide (fun l k (h : BkS A B l i k ((sa, sb), word)) (hk : k < B.len sb) (ht : ¬ toL (A.st.getD sa []) (B.mv sb k).r < 0) hq => h.add HH1.out HH2.out hk ht (HBD.out sb k hsb hk).1 hq)
      have HNX := hide (fun l k (h : BkS A B l i k ((sa, sb), word)) (hk : k = B.len sb) => h.next HH1.out HH2.out hk)
      have HTO := hide (fun k (hk : k < B.len sb) => (HBD.out sb k hsb hk).2)
      have HTT := hide (fun W (hW : Ext w W) k => HT.out W hW sa (B.mv sb k).r hsa)
      have c0 : ∀ V, Ext wr V → V.cell? ⟨g, i * 3, none⟩ = some (.int .i64 sb) := fun V hV => (hcell V hV).1
      have cg : ∀ V, Ext wr V → g < V.heap.size := fun V hV => Nat.lt_of_lt_of_le hg hV.size
      have b0 : ∀ V, Ext wr V → V.cell? ⟨z + 1, 0, none⟩ = some (.int .i64 B.n) := fun V hV => (HNr.out.ext hV).cells.2.2.2.2.1
      have b1 : ∀ V, Ext wr V → V.cell? ⟨z + 1, 1, none⟩ = some (.slice (some ⟨bb, ob, none⟩) B.L d) := fun V hV => (HNr.out.ext hV).cells.2.2.2.2.2
      have bz : ∀ V, Ext wr V → z + 1 < V.heap.size := fun V hV => (HNr.out.ext hV).cells.2.2.2.1
      have s0 : ∀ V, Ext wr V → V.cell? ⟨bb, ob + sb, none⟩ = some (.slice qb (B.len sb) db) := fun V hV => hcb V (HEr.out.trans hV)
      have sz : ∀ V, Ext wr V → bb < V.heap.size := fun V hV => Nat.lt_of_lt_of_le hbb (HEr.out.trans hV).size
      have hsbL : (sb : Int) < (B.L : Int) := by omega
      have d1 : decide (i < l.length) = true := decide_eq_true hlt
      clear hcell hcb hmv hbk
      generalize B.len sb = ls at *
      generalize B.mv sb = mf at *
      go_wp2_with fail
      refine wp_region_ext (by kernel_rfl) (by kernel_rfl) ?_
      repeat (go_big_quiet_step (fail))
      refine wpQuiet_nil ?_
      rintro w5 ⟨⟨_, hE5⟩, rfl⟩
      clear c0 cg b0 b1 bz s0 sz d1
      have HNC5 := hide (HNC.out.ext hE5)
      have hE15 := hE.trans hE5
      clear HNr hE5 HEr HNC hg hlt
      go_wp2_with fail
      go_loopw [7, 10, 11, 12, 13] (fun ul vk _ _ _ wi => ∃ (k : Nat) (l' : List ((Nat × Nat) × List Rd)) (pu : Option Addr) (cu : Nat), vk = .int .i64 k ∧ ul = .slice pu l'.length cu ∧ k ≤ ls ∧ Hid (NodeC wi W1.heap.size (.slice pu l'.length cu) l') ∧ Hid (BkS A B l' i k ((sa, sb), word)) ∧ Ext W1 wi) (fun _ vk _ _ _ _ => ls - (intOf vk).toNat)
      case atStart => exact ⟨0, l, _, _, rfl, rfl, by omega, HNC5, HBK, hE15⟩
      case round =>
        clear HNC5 HBK hE15 hil hll hE
        obtain ⟨k, lw, pu2, cu2, rfl, rfl, hk, HNC, HBK, hE⟩ := hrel
        have HEr := hide (HE0.out.trans hE)
        have HNr := hide (HN0.out.ext hE)
        have hbk := HBK.out
        obtain ⟨g, cg, vw, hu, hg, hrw, hcell⟩ := HNC.out.at_ hbk.at_
        injection hu with hu1 _ hu2
        subst hu1 hu2
        have hlw : word.length ≤ lw.length := hbk.len _ hbk.mem
        have hfew := hbk.few HH1.out HH2.out
        clear hbk
        have HRW := hide hrw
        clear hrw
        by_cases hlt : k < ls
        · have HHAS : Hid (∀ W, Ext wr W → ∀ mt tt : Int, 0 ≤ mt → 0 ≤ tt → Calls Try.prog 73 #[.slice (some ⟨g, 0, none⟩) lw.length cu2, .agg #[.int .i64 mt, .int .i64 tt]] W fun e w' => e = .returned (.bool (decide (∃ q ∈ lw, q.1 = (tt.toNat, mt.toNat)))) ∧ Ext W w') := fun W hW mt tt hmt htt => (HNC.out.ext hW).hasn (by omega) hmt htt
          obtain ⟨b2, o2, rfl, hb2, hmv⟩ := HMV.out (by omega)
          obtain ⟨m0, m1, m2, m3, m4, m5, m6, m7⟩ := hmv k hlt
          clear hmv
          have HMK1 := hide (fun h => HMK.out lw k HBK.out hlt h)
          have HSK1 := hide (fun h h' => HSK.out lw k HBK.out hlt h h')
          have HAD1 := hide (fun h h' => HAD.out lw k HBK.out hlt h h')
          have HTO1 := hide (HTO.out k hlt)
          have HTT1 := hide (fun W hW => HTT.out W hW k)
          have HLO := hide (fun W (hW : Ext wr W) => rlonger_any word (mf k).r vw W (HRW.out.1.ext hW) (by omega))
          generalize toL (A.st.getD sa []) (mf k).r = tt at HMK1 HSK1 HAD1 HTT1
          generalize mf k = m at m0 m1 m2 m3 m4 m5 m6 m7 HMK1 HSK1 HAD1 HTO1 HTT1 HLO
          obtain ⟨⟨⟨mn, ma, mb, mc, md, me⟩, mg⟩, mt⟩ := m
          dsimp only [Rd.v] at m0 m1 m2 m3 m4 m5 m6 m7 HMK1 HSK1 HAD1 HTO1 HTT1 HLO
          have x1 := (hcell wr (Ext.refl _)).2.2
          have d1 : decide (k < ls) = true := decide_eq_true hlt
          have n0 := m0 wr HEr.out
          have n1 := m1 wr HEr.out
          have n2 := m2 wr HEr.out
          have n3 := m3 wr HEr.out
          have n4 := m4 wr HEr.out
          have n5 := m5 wr HEr.out
          have n6 := m6 wr HEr.out
          have nz : b2 < wr.heap.size := Nat.lt_of_lt_of_le hb2 HEr.out.size
          have M0 := hide m0
          have M1 := hide m1
          have M2 := hide m2
          have M3 := hide m3
          have M4 := hide m4
          have M5 := hide m5
          have M6 := hide m6
          have M7 := hide m7
          have HCELL := hide hcell
          have hlwl : (i : Int) < (lw.length : Int) := by have := HBK.out.here; omega
          clear m0 m1 m2 m3 m4 m5 m6 m7 hcell
          go_upto_region 9 with fail
          go_still_tail 10, (by kernel_rfl)
          change wpList _ _ _ _ _ wr.drew
          have HE9 : Ext wr wr.drew := (Ext.refl wr).drew
          clear x1 n0 n1 n2 n3 n4 n5 n6 nz
          generalize wr.drew = w9 at HE9 ⊢
          have x1 := (HCELL.out w9 HE9).2.2
          have n0 := M0.out w9 (HEr.out.trans HE9)
          have n1 := M1.out w9 (HEr.out.trans HE9)
          have n2 := M2.out w9 (HEr.out.trans HE9)
          have n3 := M3.out w9 (HEr.out.trans HE9)
          have n4 := M4.out w9 (HEr.out.trans HE9)
          have n5 := M5.out w9 (HEr.out.trans HE9)
          have n6 := M6.out w9 (HEr.out.trans HE9)
          have nz : b2 < w9.heap.size := Nat.lt_of_lt_of_le hb2 (HEr.out.trans HE9).size
          have gz : g < w9.heap.size := Nat.lt_of_lt_of_le hg HE9.size
          go_wp2_with fail
          refine (HLO.out w9 HE9).mono ?_
          rintro e w10 ⟨wv, rfl, hown, hE10⟩
          obtain ⟨pw, cw, hwv⟩ := hown.sl
          rw [List.length_append, List.length_singleton] at hwv
          subst hwv
          have HOWN := hide (hown.rowE (by rw [List.length_append, List.length_singleton]; omega))
          have HE10 := hide (HE9.trans hE10)
          clear x1 n0 n1 n2 n3 n4 n5 n6 nz gz hown hE10 HE9 w9
          have a0 : ∀ V, Ext w10 V → V.cell? ⟨z, 0, none⟩ = some (.int .i64 A.n) := fun V hV => (HNr.out.ext (HE10.out.trans hV)).cells.2.1
          have a1 : ∀ V, Ext w10 V → V.cell? ⟨z, 1, none⟩ = some (.slice p A.L c) := fun V hV => (HNr.out.ext (HE10.out.trans hV)).cells.2.2.1
          have az : ∀ V, Ext w10 V → z < V.heap.size := fun V hV => (HNr.out.ext (HE10.out.trans hV)).cells.1
          have x0 : ∀ V, Ext w10 V → V.cell? ⟨g, i * 3 + 1, none⟩ = some (.int .i64 sa) := fun V hV => (HCELL.out V (HE10.out.trans hV)).2.1
          have gz : ∀ V, Ext w10 V → g < V.heap.size := fun V hV => Nat.lt_of_lt_of_le hg (HE10.out.trans hV).size
          have n0 : ∀ V, Ext w10 V → _ := fun V hV => M0.out V (HEr.out.trans (HE10.out.trans hV))
          have n1 : ∀ V, Ext w10 V → _ := fun V hV => M1.out V (HEr.out.trans (HE10.out.trans hV))
          have n2 : ∀ V, Ext w10 V → _ := fun V hV => M2.out V (HEr.out.trans (HE10.out.trans hV))
          have n3 : ∀ V, Ext w10 V → _ := fun V hV => M3.out V (HEr.out.trans (HE10.out.trans hV))
          have n4 : ∀ V, Ext w10 V → _ := fun V hV => M4.out V (HEr.out.trans (HE10.out.trans hV))
          have n5 : ∀ V, Ext w10 V → _ := fun V hV => M5.out V (HEr.out.trans (HE10.out.trans hV))
          have n6 : ∀ V, Ext w10 V → _ := fun V hV => M6.out V (HEr.out.trans (HE10.out.trans hV))
          have nz : ∀ V, Ext w10 V → b2 < V.heap.size := fun V hV => Nat.lt_of_lt_of_le hb2 (HEr.out.trans (HE10.out.trans hV)).size
          go_wp2_with fail
          refine wp_region_ext (by kernel_rfl) (by kernel_rfl) ?_
          repeat (go_big_quiet_step ((go_at_call 63; exact Calls.ext_of (HTT1.out _ (HEr.out.trans (HE10.out.trans (ExtOf.h _)))))))
          refine wpQuiet_nil ?_
          rintro w11 ⟨⟨_, hE11⟩, rfl⟩
          have HE11 := hide (HE10.out.trans hE11)
          have HROW := hide (HOWN.out.ext hE11)
          clear a0 a1 az x0 gz n0 n1 n2 n3 n4 n5 n6 nz
          by_cases htt : tt < 0
          · have d2 : decide (tt < 0) = true := decide_eq_true htt
            have HM := hide (HMK1.out htt)
            go_wp2_with fail
            go_ret3
            exact ⟨HEr.out.trans HE11.out, .inl ⟨_, _, rfl, HROW.out, HM.out⟩⟩
          · have d2 : decide (tt < 0) = false := decide_eq_false htt
            have y7 := M7.out w11 (HEr.out.trans HE11.out)
            have nz : b2 < w11.heap.size := Nat.lt_of_lt_of_le hb2 (HEr.out.trans HE11.out).size
            go_upto_region 14 with fail
            have HBX := hide (heap_alloc_new w11 (.cells #[.int .i64 mt, .int .i64 tt] 45))
            have HE12 := hide (HE11.out.alloc (.cells #[.int .i64 mt, .int .i64 tt] 45))
            have HROW2 := hide (HROW.out.ext ((Ext.refl w11).alloc (.cells #[.int .i64 mt, .int .i64 tt] 45)))
            have HTN := hide (show 0 ≤ tt by omega)
            clear y7 nz HROW htt d2
            generalize w11.alloc (.cells #[.int .i64 mt, .int .i64 tt] 45) = w12 at HBX HE12 HROW2 ⊢
            generalize w11.heap.size = nb at HBX ⊢
            have t0 := dcell HBX.out 0
            have t1 := dcell HBX.out 1
            have tz := lt_of_heap HBX.out
            have HHC := hide (HHAS.out w12 HE12.out mt tt HTO1.out HTN.out)
            by_cases hkn : ∃ q ∈ lw, q.1 = (tt.toNat, mt.toNat)
            · rw [decide_eq_true hkn] at HHC
              have HB2 := hide (HSK1.out (by have := HTN.out; omega) hkn)
              clear hkn
              go_wp2_with fail
              refine HHC.out.mono ?_
              rintro e w13 ⟨rfl, hE13⟩
              have HE13 := hide (HE12.out.trans hE13)
              clear t0 t1 tz hE13
              go_wp2_with fail
              go_roundw
              case rel => exact ⟨k + 1, lw, _, cu2, by go_num, rfl, by omega, HNC.out.ext HE13.out, HB2, hE.trans HE13.out⟩
              case measure => simp [intOf]; omega
            · rw [decide_eq_false hkn] at HHC
              have HB2 := hide (HAD1.out (by have := HTN.out; omega) hkn)
              clear hkn
              go_wp2_with fail
              refine HHC.out.mono ?_
              rintro e w13 ⟨rfl, hE13⟩
              have HE13 := hide (HE12.out.trans hE13)
              have hbx := (hE13.b.block _ tz).trans HBX.out
              have HROW3 := hide (HROW2.out.ext hE13)
              clear t0 t1 tz hE13
              have t0 := dcell hbx 0
              have t1 := dcell hbx 1
              have tz := lt_of_heap hbx
              clear hbx
              have hbase : W1.heap.size ≤ (w13.alloc (.cells #[.int .i64 mt, .int .i64 tt, .slice pw (word.length + 1) cw] 113)).heap.size := by
                have := (hE.trans HE13.out).size
                simp only [World.size_alloc]; omega
              go_wp2_with (at_builtin; refine wpList_pushN rfl (.tmp 76) (.tmp 80) rfl W1.heap.size _ lw (tt.toNat, mt.toNat) (.slice pw (word.length + 1) cw) (word ++ [⟨⟨mn, ma, mb, mc, md, me⟩, mg⟩]) w13.heap.size rfl ((HNC.out.ext HE13.out).ext ((Ext.refl w13).alloc _)) rfl (by dsimp only; rw [Int.toNat_of_nonneg HTO1.out, Int.toNat_of_nonneg HTN.out]; exact cell_new_n _ mt tt _) (HROW3.out.ext ((Ext.refl w13).alloc _)) (by omega) hbase ?_; intro v' w14 hnc14 hg14 hform14; obtain ⟨g', c', rfl, -⟩ := hform14)
              have hE14 : Ext W1 w14 := ((hE.trans HE13.out).alloc _).grown hg14 HNC.out.block_ge
              clear t0 t1 tz
              go_roundw
              case rel => exact ⟨k + 1, _, _, c', by go_num, by rw [List.length_append, List.length_singleton], by omega, by rw [List.length_append, List.length_singleton]; exact hnc14, HB2, hE14⟩
              case measure => simp [intOf]; omega
        · obtain rfl : k = ls := by omega
          have HN1 := hide (HNX.out lw k HBK.out rfl)
          have hlt2 : i < lw.length := HBK.out.here
          have d1 : decide (k < k) = false := decide_eq_false (by omega)
          have HSR2 : Hid (SrO A B lw (i + 1)) := by
            show SrO A B lw (i + 1)
            rcases Nat.lt_or_ge (i + 1) lw.length with h | h
            · exact .inl (HN1.out.1 h)
            · exact .inr ⟨by omega, HN1.out.2 (by omega), hfew⟩
          go_wp2_with fail
          go_roundw
          case rel => exact ⟨i + 1, lw, _, cu2, by go_num, rfl, by omega, hfew, by omega, HNC, HSR2, hE⟩
          case measure => simp [intOf]; omega
    · have hfull : i = l.length ∧ Full (act := actP dI A B) (0, 0) l ∧ l.length ≤ 65536 := by
        rcases HSR.out with ⟨pn, h⟩ | h
        · exact absurd h.here hlt
        · exact h
      have HFU := hide hfull
      clear hfull HSR
      have d1 : decide (i < l.length) = false := decide_eq_false hlt
      go_wp2_with fail
      go_ret3
      exact ⟨HEr.out, .inr ⟨_, l, rfl, HNC.out.mono (by have := HSZ.out; omega), HFU.out.2⟩⟩
end Go.Proofs.Ytmkmgimmlohamaa
