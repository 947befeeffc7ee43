/-
  The reference's Inputs and Outputs (roundtableref13).
  Conditions: as each theorem states.
-/
import Derived.Test.YthpccmmdkbjjhaaDoorVecs
import Derived.Test.YthpccmmdkbjjhaaDoorOwned
import Derived.Test.YthpccmmdkbjjhaaDoorOutP
import Derived.ArgAppend
import Derived.Deep.Upon
namespace Go.Proofs.YthpccmmdkbjjhaaDoor
open Go.RowKit
attribute [local go_sem] Oper.semAt_some

def extP (x : List Int) (v : Nat) : List (List Int) := (List.range v).map fun k : Nat => x ++ [(k : Int)]
theorem extP_succ (x : List Int) (v : Nat) : extP x (v + 1) = extP x v ++ [x ++ [(v : Int)]] := by simp [extP, List.range_succ]
def flatV (m : Nat) (L : List (List Int)) (i : Nat) : List (List Int) := (L.take i).flatMap fun x => extP x m
theorem flatV_succ {m : Nat} {L : List (List Int)} {i : Nat} (h : i < L.length) : flatV m L (i + 1) = flatV m L i ++ extP (L.getD i []) m := by
  unfold flatV
  rw [List.take_succ_eq_append_getElem h, List.flatMap_append, List.getD_eq_getElem?_getD, List.getElem?_eq_getElem h]
  simp
theorem flatV_len (m : Nat) (L : List (List Int)) : ∀ i, (flatV m L i).length ≤ i * m := by
  intro i
  induction i with
  | zero => simp [flatV]
  | succ i ih =>
    rcases Nat.lt_or_ge i L.length with h | h
    · rw [flatV_succ h, List.length_append, Nat.succ_mul]
      have : (extP (L.getD i []) m).length = m := by simp [extP]
      omega
    · have : flatV m L (i + 1) = flatV m L i := by unfold flatV; rw [List.take_of_length_le h, List.take_of_length_le (by omega)]
      rw [this, Nat.succ_mul]; omega
theorem flatV_all (m n : Nat) : flatV m (vecs m n) (m ^ n) = vecs m (n + 1) := by
  unfold flatV
  rw [List.take_of_length_le (by rw [vecs_len]; exact Nat.le_refl _)]
  rfl
theorem pow_bd {m n : Nat} (hm : m ≤ 8) (hn : n ≤ 5) : m ^ n ≤ 32768 :=
  Nat.le_trans (Nat.pow_le_pow_left hm n) (Nat.pow_le_pow_right (by decide) hn)
theorem islice_infoR : (Tryd.prog.info? 38).map (fun i => (i.zero, i.size, i.bytes)) = some (some (.slice none 0 0), 1, 24) := by kernel_rfl

set_option maxRecDepth 16000 in
set_option maxHeartbeats 4000000 in
theorem rvecs_any (n m : Nat) (w : World) (hn5 : n ≤ 5) (hm8 : m ≤ 8) :
    Calls Tryd.prog 36 #[.int .i64 n, .int .i64 m] w (RetV (fun u w' => Coll 38 3 icells 1 w' w.heap.size u (vecs m n)) w) := by
  have hE1 : Ext w (w.alloc (.cells #[.slice none 0 0] 38)) := (Ext.refl w).alloc _
  have hC1 : Coll 38 3 icells 1 (w.alloc (.cells #[.slice none 0 0] 38)) w.heap.size (.slice (some ⟨w.heap.size, 0, none⟩) 1 1) (vecs m 0) := by
    refine ⟨[.slice none 0 0], rfl, ⟨fun _ => rfl, rfl, .inr ⟨w.heap.size, 1, #[.slice none 0 0], rfl, Nat.le_refl _, heap_alloc_new w _, Nat.le_refl _, by unfold maxLen; omega, rfl, rfl⟩⟩, fun i u xs hu hx => ?_⟩
    cases i with
    | zero =>
      simp only [vecs, List.getElem?_cons_zero, Option.some.injEq] at hu hx
      subst hu hx
      exact RowE.nil _ _ _ _
    | succ i => simp at hu
  have H1 := hide (And.intro hE1 hC1)
  clear hE1 hC1
  go_enter Tryd.func36, Tryd.ntmps36
  go_wp2_with fail
  go_loopw [5, 6] (fun u x wr => ∃ p : Nat, p ≤ n ∧ x = .int .i64 p ∧ Hid (Coll 38 3 icells 1 wr w.heap.size u (vecs m p)) ∧ (∃ q c, u = .slice q (m ^ p) c) ∧ Hid (Ext w wr)) (fun _ x _ => n - (intOf x).toNat)
  case atStart => exact ⟨0, by omega, rfl, H1.out.2, ⟨_, _, rfl⟩, H1.out.1⟩
  case round =>
    obtain ⟨p, hp, rfl, HC, ⟨q, c, rfl⟩, HE⟩ := hrel
    clear H1
    by_cases hlt : p < n
    · go_wp2_with fail
      have HALL := hide (flatV_all m p)
      have HSUC := hide (fun i (h : i < m ^ p) => flatV_succ (m := m) (L := vecs m p) (i := i) (by rw [vecs_len]; exact h))
      have HLEN := hide (flatV_len m (vecs m p))
      have HXL : Hid (∀ i, i < m ^ p → ((vecs m p).getD i []).length = p) := fun i hi => by
        rw [List.getD_eq_getElem?_getD, vecs_at m p hi]; exact dig_len m p i
      have HAT : Hid (∀ i, i < m ^ p → ∀ W, Ext wr W → ∃ g c' v, Value.slice q (m ^ p) c = .slice (some ⟨g, 0, none⟩) (m ^ p) c' ∧ g < wr.heap.size ∧ W.cell? ⟨g, i, none⟩ = some v ∧ RowE 3 icells 1 W v ((vecs m p).getD i [])) := fun i hi W hW => by
        obtain ⟨g, c', v, h1, h2, h3, h4⟩ := HC.out.at_ (i := i) (by rw [vecs_len]; exact hi)
        rw [vecs_len] at h1
        exact ⟨g, c', v, h1, h2, (hW.cell h2).trans h3, h4.ext hW⟩
      have hpow := pow_bd hm8 (Nat.le_of_lt (Nat.lt_of_lt_of_le hlt hn5))
      generalize (vecs m p).getD = fx at HXL HAT HSUC
      have hfl0 : Hid (flatV m (vecs m p) 0 = []) := rfl
      have HPL := hide (vecs_len m (p + 1))
      generalize flatV m (vecs m p) = fl at HALL HSUC HLEN hfl0
      generalize m ^ p = L at *
      obtain ⟨wo, rfl⟩ : ∃ wo : World, wo = wr := ⟨_, rfl⟩
      go_loopw [7, 8] (fun u x wr => ∃ i : Nat, i ≤ L ∧ x = .int .i64 i ∧ Hid (Coll 38 3 icells 1 wr wo.heap.size u (fl i)) ∧ Hid (Ext wo wr)) (fun _ x _ => L - (intOf x).toNat)
      case atStart => exact ⟨0, by omega, rfl, by rw [hfl0.out]; exact Coll.nil _ _, Ext.refl _⟩
      case round =>
        obtain ⟨i, hi, rfl, HC2, HE2⟩ := hrel
        by_cases hlt2 : i < L
        · go_wp2_with fail
          have HSI := hide (HSUC.out i hlt2)
          have HATI := hide (HAT.out i hlt2)
          have HXI := hide (HXL.out i hlt2)
          have HLI : Hid ((fl i).length ≤ 300000) := by
            have h1 := HLEN.out i
            have h2 : i * m ≤ 32768 * 8 := Nat.mul_le_mul (by omega) hm8
            show _ ≤ _
            omega
          generalize fx i [] = y at HSI HATI HXI
          obtain ⟨wm, rfl⟩ : ∃ wm : World, wm = wr := ⟨_, rfl⟩
          have HX0 : Hid (fl i ++ extP y 0 = fl i) := by show _ = _; simp [extP]
          go_loopw [7, 9] (fun u x wr => ∃ k : Nat, k ≤ m ∧ x = .int .i64 k ∧ Hid (Coll 38 3 icells 1 wr wo.heap.size u (fl i ++ extP y k)) ∧ Hid (Ext wo wr)) (fun _ x _ => m - (intOf x).toNat)
          case atStart => exact ⟨0, by omega, rfl, by rw [HX0.out]; exact HC2.out, HE2.out⟩
          case round =>
            obtain ⟨k, hk, rfl, HC3, HE3⟩ := hrel
            by_cases hlt3 : k < m
            · obtain ⟨g, c', v, hqe, hgz, hcl, hrow⟩ := HATI.out wr HE3.out
              injection hqe with hq1 _ hq3
              subst hq1 hq3
              obtain ⟨⟨p9, c9, rfl, hc9, hl9, hb9⟩, hty9⟩ := hrow
              have hyl := HXI.out
              have hgz3 : g < wr.heap.size := Nat.lt_of_lt_of_le hgz HE3.out.size
              have HY : Hid (Row icells 1 wr (.slice p9 y.length c9) y) := ⟨p9, c9, rfl, hc9, hl9, hb9⟩
              have HO : Hid (Own icells 1 (wr.alloc (.cells #[] 3)) wr.heap.size 3 (.slice (some ⟨wr.heap.size, 0, none⟩) 0 0) ([] : List Int)) := Own.empty (fun _ => rfl) (Nat.le_refl _) (heap_alloc_new wr _)
              have hyl5 : y.length ≤ 5 := by omega
              clear hb9 hty9 hc9 hl9 hyl
              go_wp2_with (first
                | (at_builtin
                   refine wpList_appendN rfl (.tmp 28) (.tmp 32) 38 rfl wr.heap.size 3 (.int .i64 0) 1 8 Tryd.underlying38 int_info rfl (by decide) _ ([] : List Int) _ y rfl HO.out rfl (HY.out.ext ((Ext.refl wr).alloc _)) int_one (by simp; omega) (by decide) (by simp) ?_
                   intro v1 w1 hown1 hg1
                   have HE4 : Hid (Ext wr w1) := ((Ext.refl wr).alloc _).grown hg1 (fun k hk => by injection hk with hk; rw [← hk]; exact Nat.le_refl _)
                   rw [List.nil_append] at hown1
                   obtain ⟨q1, c1, rfl⟩ : ∃ q1 c1, v1 = .slice q1 y.length c1 := by
                     rcases hown1.form with ⟨h, hn⟩ | ⟨g, c, h, _⟩
                     · exact ⟨none, 0, by rw [h, hn]; rfl⟩
                     · exact ⟨_, _, h⟩
                   have HO1 := hide hown1
                   have hz41 := HE4.out.size
                   clear hown1 hg1 hcl)
                | (at_builtin
                   refine wpList_append1 rfl (.tmp 35) (.tmp 37) 38 rfl wr.heap.size 3 (.int .i64 0) 1 8 Tryd.underlying38 int_info rfl (by decide) _ y (k : Int) w1.heap.size rfl (HO1.out.alloc _) rfl (cell_new1 _ _ _) (int_one _) (by omega) (by decide) (by simp; omega) ?_
                   intro v2 w2 hown2 hg2 hf2
                   have HE5 : Hid (Ext wr w2) := (HE4.out.alloc _).grown hg2 HO1.out.block_ge
                   obtain ⟨g2, c2, rfl, -⟩ := hf2
                   have HO2 := hide (hown2.rowE (by rw [List.length_append, List.length_singleton]; omega))
                   have hz42 := HE5.out.size
                   clear hown2 hg2)
                | (at_builtin
                   refine wpList_push rfl (.tmp 34) (.tmp 39) 30 rfl wo.heap.size 38 3 1 (by decide) Tryd.underlying30 islice_infoR _ (fl i ++ extP y k) _ (y ++ [(k : Int)]) w2.heap.size rfl (HC3.out.ext (HE5.out.alloc _)) rfl (cell_new1 _ _ _) (HO2.out.ext ((Ext.refl _).alloc _)) (by rw [List.length_append]; have := HLI.out; have hek : (extP y k).length = k := (by simp [extP]); omega) (by have := HE3.out.size; simp; omega) ?_
                   intro v3 w3 hc3 hg3 hf3
                   have HE6 : Hid (Ext wo w3) := ((HE3.out.trans HE5.out).alloc _).grown hg3 HC3.out.block_ge
                   obtain ⟨g3, c3, rfl, -⟩ := hf3
                   rw [List.append_assoc, ← extP_succ, List.length_append] at hc3
                   have HC4 := hide hc3
                   clear hc3 hg3))
              go_roundw
              case rel => exact ⟨k + 1, by omega, by go_num, HC4.out, HE6.out⟩
              case measure => simp [intOf]; omega
            · obtain rfl : k = m := by omega
              go_wp2_with fail
              go_roundw
              case rel => exact ⟨i + 1, by omega, by go_num, by rw [HSI.out]; exact HC3.out, HE3.out⟩
              case measure => simp [intOf]; omega
        · obtain rfl : i = L := by omega
          go_wp2_with fail
          go_roundw
          case rel => exact ⟨p + 1, by omega, by go_num, by rw [← HALL.out]; exact HC2.out.mono HE.out.size, by have := HC2.out.sl; rwa [HALL.out, HPL.out] at this, HE.out.trans HE2.out⟩
          case measure => simp [intOf]; omega
    · obtain rfl : p = n := by omega
      go_wp2_with fail
      go_ret
      exact ⟨_, rfl, HC.out, HE.out⟩
end Go.Proofs.YthpccmmdkbjjhaaDoor

namespace Go.Proofs.YthpccmmdkbjjhaaDoor
open Go.RowKit
attribute [local go_sem] Oper.semAt_some

set_option maxRecDepth 16000 in
set_option maxHeartbeats 4000000 in
theorem rinputs_any (n m : Int) (e : Ex) (v : Value) (w : World) (hv : ExAt w v e) (hno : e.nodes ≤ 100000) (hfew : fewV n m) :
    Calls Tryd.prog 14 #[.int .i64 n, .int .i64 m, v] w (RetV2 (fun u w' => Coll 38 3 icells 1 w' w.heap.size u (inpS n m e).1) (inpS n m e).2 w) := by
  have HSZ := hide (fun W => rsizes_any n m W)
  have HGI := hide (fun W (hW : Ext w W) => rgiven_any e 1 v W (hv.ext hW) hno (by decide))
  have HOK := hide (fun (N : Nat) l u W (hW : Ext w W) hs (hl : Row icells 1 W u l) => rholds_any ⟨N, l, [], gz⟩ hs rfl e v u (.slice none 0 0) W (hv.ext hW) hno hl (Row.nil _ _ _))
  obtain ⟨p, c, rfl, hc, hl⟩ := hv.form
  clear hv
  have hE0 : Ext w (w.alloc (.cells #[.int .i64 e.op, .int .i64 e.num, .slice p e.args.length c] 26)) := (Ext.refl w).alloc _
  have HB := hide (fun w1 => xbox w e.op e.num (.slice p e.args.length c) (w1 := w1))
  unfold inpS
  by_cases h1 : sizesS n [m] ≠ 0
  · rw [if_pos h1]
    have hd : (sizesS n [m] != 0) = true := by simp [h1]
    clear h1
    generalize sizesS n [m] = sz at HSZ hd ⊢
    go_enter Tryd.func14, Tryd.ntmps14
    go_wp2_with fail
    refine (HSZ.out _).mono ?_
    rintro e' w4 ⟨rfl, hw4⟩
    have hE4 : Ext w w4 := by rw [hw4]; exact hE0
    clear hw4
    go_wp2_with fail
    go_ret2
    exact ⟨_, rfl, Coll.nil _ _, hE4⟩
  rw [if_neg h1]
  have h10 : sizesS n [m] = 0 := by simpa using h1
  have HSB := hide (sizes_zero h10)
  rw [h10] at HSZ
  clear h1 h10
  by_cases h2 : givenS e 1 ≠ 0
  · rw [if_pos h2]
    have hd : (givenS e 1 != 0) = true := by simp [h2]
    clear h2
    generalize givenS e 1 = ge at HGI hd ⊢
    go_enter Tryd.func14, Tryd.ntmps14
    go_wp2_with fail
    refine (HSZ.out _).mono ?_
    rintro e' w4 ⟨rfl, hw4⟩
    have hE4 : Ext (w.alloc (.cells #[.int .i64 e.op, .int .i64 e.num, .slice p e.args.length c] 26)) w4 := by rw [hw4]; exact Ext.refl _
    clear hw4
    obtain ⟨c0, c1, c2, hz⟩ := HB.out _ hE4
    go_wp2_with fail
    refine (HGI.out _ (hE0.trans hE4)).mono ?_
    rintro e' w5 ⟨rfl, hE5⟩
    go_wp2_with fail
    go_ret2
    exact ⟨_, rfl, Coll.nil _ _, (hE0.trans hE4).trans hE5⟩
  rw [if_neg h2]
  have h20 : givenS e 1 = 0 := by simpa using h2
  rw [h20] at HGI
  clear h2 h20
  have hfew := hfew HSB.out.1 HSB.out.2.1 HSB.out.2.2.1 HSB.out.2.2.2
  obtain ⟨N, rfl⟩ := Int.eq_ofNat_of_zero_le (show 0 ≤ n by have := HSB.out.1; omega)
  obtain ⟨M, rfl⟩ := Int.eq_ofNat_of_zero_le (show 0 ≤ m by have := HSB.out.2.2.1; omega)
  rw [Int.toNat_natCast, Int.toNat_natCast] at hfew
  rw [Int.toNat_natCast, Int.toNat_natCast]
  have HN : Hid (1 ≤ N ∧ N ≤ 5 ∧ 1 ≤ M ∧ M ≤ 8) := by have := HSB.out; show _ ∧ _; omega
  have HVC := hide (fun W => rvecs_any N M W HN.out.2.1 HN.out.2.2.2)
  have HFIN := hide (selV_all M N (holdIn N e))
  have HLEN := hide (selV_len M N (holdIn N e))
  have HYES := hide (fun i => selV_yes (m := M) (n := N) (P := holdIn N e) (i := i))
  have HNO := hide (fun i => selV_no (m := M) (n := N) (P := holdIn N e) (i := i))
  have HVL := hide (vecs_len M N)
  have HVA : Hid (∀ i, i < M ^ N → (vecs M N).getD i [] = dig M N i) := fun i hi => by rw [List.getD_eq_getElem?_getD, vecs_at M N hi]; rfl
  have HOK := hide (fun i u W (hW : Ext w W) hl => HOK.out N (dig M N i) u W hW (dig_ok HN.out.1 HN.out.2.1 HN.out.2.2.1 HN.out.2.2.2 i) hl)
  have HS0 : Hid (selV M N (holdIn N e) 0 = []) := rfl
  clear HSB
  generalize hf : (vecs M N).filter (holdIn N e) = fin at HFIN ⊢
  clear hf
  generalize selV M N (holdIn N e) = sel at HFIN HLEN HYES HNO HS0
  generalize vecs M N = VS at HVC HVL HVA
  go_enter Tryd.func14, Tryd.ntmps14
  go_wp2_with fail
  refine (HSZ.out _).mono ?_
  rintro e' w4 ⟨rfl, hw4⟩
  have hE4 : Ext (w.alloc (.cells #[.int .i64 e.op, .int .i64 e.num, .slice p e.args.length c] 26)) w4 := by rw [hw4]; exact Ext.refl _
  clear hw4
  obtain ⟨c0, c1, c2, hz⟩ := HB.out _ hE4
  go_wp2_with fail
  refine (HGI.out _ (hE0.trans hE4)).mono ?_
  rintro e' w5 ⟨rfl, hE5⟩
  have hE45 := hE4.trans hE5
  clear c0 c1 c2 hz hE4 hE5
  go_wp2_with fail
  refine (HVC.out w5).mono ?_
  rintro e' w6 ⟨u, rfl, hu, hE6⟩
  have hEa := hE45.trans hE6
  obtain ⟨q, k, rfl⟩ := hu.sl
  rw [HVL.out] at hu ⊢
  have HU := hide hu
  have HEA := hide hEa
  clear hu hE45 hE6 hEa
  have hpow := hfew
  generalize M ^ N = L at *
  go_wp2_with fail
  go_loopw [11, 12] (fun u x wr => ∃ i : Nat, i ≤ L ∧ x = .int .i64 i ∧ Hid (Coll 38 3 icells 1 wr w6.heap.size u (sel i)) ∧ Hid (Ext w6 wr)) (fun _ x _ => L - (intOf x).toNat)
  case atStart => exact ⟨0, by omega, rfl, by rw [HS0.out]; exact Coll.nil _ _, Ext.refl _⟩
  case round =>
    obtain ⟨i, hi, rfl, HC, HE⟩ := hrel
    by_cases hlt : i < L
    · obtain ⟨c0, c1, c2, hz⟩ := HB.out _ (HEA.out.trans HE.out)
      obtain ⟨g, k', vv, hqe, hgz, hcl, hrow⟩ := (HU.out.ext HE.out).at_ (i := i) (by rw [HVL.out]; exact hlt)
      rw [HVL.out] at hqe
      injection hqe with hq1 _ hq3
      subst hq1 hq3
      rw [HVA.out i hlt] at hrow
      obtain ⟨q9, d9, rfl, -⟩ := hrow.1
      have HROW := hide hrow
      have HOKI := hide (fun W (hW : Ext wr W) => HOK.out i _ W (hE0.trans (HEA.out.trans (HE.out.trans hW))) (hrow.1.ext hW))
      clear hrow
      have HAFT : Hid (∀ w9, Ext wr w9 → w9.cell? ⟨g, i, none⟩ = some (.slice q9 (dig M N i).length d9) ∧ g < w9.heap.size) := fun w9 h9 => ⟨(h9.cell hgz).trans hcl, Nat.lt_of_lt_of_le hgz h9.size⟩
      have HEW : Hid (Ext w wr) := hE0.trans (HEA.out.trans HE.out)
      have HLI := hide (HLEN.out i)
      cases hp : holdIn N e (dig M N i) with
      | true =>
        have HS := hide (HYES.out i hlt hp)
        have HOKI : Hid (∀ W, Ext wr W → Calls Tryd.prog 51 #[.agg #[.int .i64 e.op, .int .i64 e.num, .slice p e.args.length c], .int .i64 N, .slice q9 (dig M N i).length d9, .slice none 0 0] W fun e' w' => e' = .returned (.bool true) ∧ Ext W w') := fun W hW => by
          have := HOKI.out W hW
          rw [show holdsB ⟨N, dig M N i, [], gz⟩ e = true from hp] at this
          exact this
        clear hp
        generalize dig M N i = y at HS HOKI HROW HAFT hcl ⊢
        go_wp2_with fail
        refine wp_region_ext (by kernel_rfl) (by kernel_rfl) ?_
        repeat (go_big_quiet_step ((go_at_call 51; exact Calls.ext_of (HOKI.out _ (by simp [go_sem])))))
        refine wpQuiet_nil ?_
        rintro w9 ⟨⟨_, hE9⟩, rfl⟩
        obtain ⟨hcl9, hgz9⟩ := HAFT.out _ hE9
        have HC9 := hide (HC.out.ext hE9)
        clear c0 c1 c2 hz hcl hgz
        go_wp2_with (at_builtin; refine wpList_push rfl (.tmp 40) (.tmp 45) 30 rfl w6.heap.size 38 3 1 (by decide) Tryd.underlying30 islice_infoR _ (sel i) _ y w9.heap.size rfl (HC9.out.ext ((Ext.refl _).alloc _)) rfl (cell_new1 _ _ _) ((HROW.out.ext hE9).ext ((Ext.refl _).alloc _)) (by have := HLI.out; omega) (by have := HE.out.size; have := hE9.size; simp; omega) ?_; intro v3 w3 hc3 hg3 hf3)
        have HE6 : Hid (Ext w6 w3) := ((HE.out.trans hE9).alloc _).grown hg3 HC9.out.block_ge
        obtain ⟨g3, c3, rfl, -⟩ := hf3
        rw [← HS.out] at hc3
        have HC4 := hide hc3
        clear hc3 hg3
        go_roundw
        case rel => exact ⟨i + 1, by omega, by go_num, HC4.out, HE6.out⟩
        case measure => simp [intOf]; omega
      | false =>
        have HS := hide (HNO.out i hlt hp)
        have HOKI : Hid (∀ W, Ext wr W → Calls Tryd.prog 51 #[.agg #[.int .i64 e.op, .int .i64 e.num, .slice p e.args.length c], .int .i64 N, .slice q9 (dig M N i).length d9, .slice none 0 0] W fun e' w' => e' = .returned (.bool false) ∧ Ext W w') := fun W hW => by
          have := HOKI.out W hW
          rw [show holdsB ⟨N, dig M N i, [], gz⟩ e = false from hp] at this
          exact this
        clear hp
        generalize dig M N i = y at HS HOKI HROW HAFT hcl ⊢
        go_wp2_with fail
        refine wp_region_ext (by kernel_rfl) (by kernel_rfl) ?_
        repeat (go_big_quiet_step ((go_at_call 51; exact Calls.ext_of (HOKI.out _ (by simp [go_sem])))))
        refine wpQuiet_nil ?_
        rintro w9 ⟨⟨_, hE9⟩, rfl⟩
        clear c0 c1 c2 hz hcl hgz
        go_wp2_with fail
        go_roundw
        case rel => exact ⟨i + 1, by omega, by go_num, by rw [HS.out]; exact HC.out.ext hE9, HE.out.trans hE9⟩
        case measure => simp [intOf]; omega
    · obtain rfl : i = L := by omega
      have HLI := hide (HLEN.out i)
      obtain ⟨q7, c7, hu7⟩ := HC.out.sl
      have hd : decide ((1024 : Int) < ((sel i).length : Int)) = false := by have := HLI.out; simp; omega
      subst hu7
      have hEE : Ext w wr := hE0.trans (HEA.out.trans HE.out)
      rw [HFIN.out] at HC hd ⊢
      go_wp2_with fail
      go_ret2
      exact ⟨_, rfl, HC.out.mono (hE0.trans HEA.out).size, hEE⟩

theorem any_getD {l : List Int} {P : Int → Bool} {i : Nat} (h : i < l.length) (hp : P (l.getD i 0) = true) : l.any P = true := by
  refine List.any_eq_true.2 ⟨l.getD i 0, ?_, hp⟩
  rw [List.getD_eq_getElem?_getD, List.getElem?_eq_getElem h]; exact List.getElem_mem h
theorem any_none {l : List Int} {P : Int → Bool} (h : ∀ j, j < l.length → P (l.getD j 0) = false) : l.any P = false := by
  rw [List.any_eq_false]
  intro x hx
  obtain ⟨i, hi, rfl⟩ := List.mem_iff_getElem.1 hx
  have := h i hi
  rw [List.getD_eq_getElem?_getD, List.getElem?_eq_getElem hi] at this
  simpa using this
set_option maxRecDepth 16000 in
set_option maxHeartbeats 4000000 in
theorem routputs_any (n m : Int) (li : List Int) (e : Ex) (vi v : Value) (w : World) (hi : Row icells 1 w vi li) (hv : ExAt w v e) (hno : e.nodes ≤ 100000) (hfew : fewV n m) :
    Calls Tryd.prog 17 #[.int .i64 n, .int .i64 m, vi, v] w (RetV2 (fun u w' => Coll 38 3 icells 1 w' w.heap.size u (outS n m li e).1) (outS n m li e).2 w) := by
  have HSZ := hide (fun W => rsizes_any n m W)
  have HGI := hide (fun W (hW : Ext w W) => rgiven_any e 3 v W (hv.ext hW) hno (by decide))
  have HOK := hide (fun (N : Nat) l u W (hW : Ext w W) hs (hl : Row icells 1 W u l) => rholds_any ⟨N, li, l, gz⟩ hs rfl e v vi u W (hv.ext hW) hno (hi.ext hW) hl)
  obtain ⟨p, c, rfl, hc, hl⟩ := hv.form
  obtain ⟨pi, ci, rfl, -, -, hia⟩ := hi.int_all
  have HIA := hide hia
  clear hv hi hia
  have hE0 : Ext w (w.alloc (.cells #[.int .i64 e.op, .int .i64 e.num, .slice p e.args.length c] 26)) := (Ext.refl w).alloc _
  have HB := hide (fun w1 => xbox w e.op e.num (.slice p e.args.length c) (w1 := w1))
  unfold outS
  by_cases h1 : sizesS n [m] ≠ 0
  · rw [if_pos h1]
    have hd : (sizesS n [m] != 0) = true := by simp [h1]
    clear h1
    generalize sizesS n [m] = sz at HSZ hd ⊢
    go_enter Tryd.func17, Tryd.ntmps17
    go_wp2_with fail
    refine (HSZ.out _).mono ?_
    rintro e' w4 ⟨rfl, hw4⟩
    have hE4 : Ext w w4 := by rw [hw4]; exact hE0
    clear hw4
    go_wp2_with fail
    go_ret2
    exact ⟨_, rfl, Coll.nil _ _, hE4⟩
  rw [if_neg h1]
  have h10 : sizesS n [m] = 0 := by simpa using h1
  have HSB := hide (sizes_zero h10)
  rw [h10] at HSZ
  clear h1 h10
  by_cases h3 : (li.length : Int) ≠ n
  · rw [if_pos h3]
    have hd : ((li.length : Int) != n) = true := by simp [h3]
    clear h3
    go_enter Tryd.func17, Tryd.ntmps17
    go_wp2_with fail
    refine (HSZ.out _).mono ?_
    rintro e' w4 ⟨rfl, hw4⟩
    have hE4 : Ext w w4 := by rw [hw4]; exact hE0
    clear hw4
    go_wp2_with fail
    go_ret2
    exact ⟨_, rfl, Coll.nil _ _, hE4⟩
  rw [if_neg h3]
  have hfew := hfew HSB.out.1 HSB.out.2.1 HSB.out.2.2.1 HSB.out.2.2.2
  obtain ⟨N, rfl⟩ := Int.eq_ofNat_of_zero_le (show 0 ≤ n by have := HSB.out.1; omega)
  obtain ⟨M, rfl⟩ := Int.eq_ofNat_of_zero_le (show 0 ≤ m by have := HSB.out.2.2.1; omega)
  rw [Int.toNat_natCast, Int.toNat_natCast] at hfew
  rw [Int.toNat_natCast, Int.toNat_natCast]
  have hN : 1 ≤ N ∧ N ≤ 5 ∧ 1 ≤ M ∧ M ≤ 8 := by have := HSB.out; omega
  have HN := hide hN
  have hN5 := hN.2.1
  clear hN
  have HLN : Hid (li.length = N) := by have h : (li.length : Int) = (N : Int) := (by simpa using h3); show _ = _; omega
  have HGB := hide (fun i (h : i < N) => any_getD (l := li) (P := outBad) (i := i) (by have := HLN.out; omega))
  have HGN := hide (fun h => any_none (l := li) (P := outBad) h)
  have HVC := hide (fun W => rvecs_any N M W HN.out.2.1 HN.out.2.2.2)
  have HFIN := hide (selV_all M N (holdOut N li e))
  have HLEN := hide (selV_len M N (holdOut N li e))
  have HYES := hide (fun i => selV_yes (m := M) (n := N) (P := holdOut N li e) (i := i))
  have HNO := hide (fun i => selV_no (m := M) (n := N) (P := holdOut N li e) (i := i))
  have HVL := hide (vecs_len M N)
  have HVA : Hid (∀ i, i < M ^ N → (vecs M N).getD i [] = dig M N i) := fun i hi => by rw [List.getD_eq_getElem?_getD, vecs_at M N hi]; rfl
  have HOK := hide (fun (hb : li.any outBad = false) i u W (hW : Ext w W) hl => HOK.out N (dig M N i) u W hW (dig_ok2 HN.out.1 HN.out.2.1 HN.out.2.2.1 HN.out.2.2.2 hb i) hl)
  have HS0 : Hid (selV M N (holdOut N li e) 0 = []) := rfl
  clear HSB
  have hd3 : ((li.length : Int) != (N : Int)) = false := by simpa using h3
  clear h3
  generalize hf : (vecs M N).filter (holdOut N li e) = fin at HFIN ⊢
  clear hf
  generalize hres : (if li.any outBad = true then (([], 2) : List (List Int) × Int) else if givenS e 3 ≠ 0 then ([], givenS e 3) else (fin, 0)) = res
  have HRES := hide hres
  clear hres
  generalize selV M N (holdOut N li e) = sel at HFIN HLEN HYES HNO HS0
  generalize vecs M N = VS at HVC HVL HVA
  go_enter Tryd.func17, Tryd.ntmps17
  go_wp2_with fail
  refine (HSZ.out _).mono ?_
  rintro e' w4 ⟨rfl, hw4⟩
  have hE4 : Ext (w.alloc (.cells #[.int .i64 e.op, .int .i64 e.num, .slice p e.args.length c] 26)) w4 := by rw [hw4]; exact Ext.refl _
  clear hw4
  go_wp2_with fail
  clear hd3
  have HE4 := hide hE4
  clear hE4
  go_loopw [11] (fun x wr => ∃ i : Nat, i ≤ N ∧ x = .int .i64 i ∧ Hid (∀ j, j < i → outBad (li.getD j 0) = false) ∧ Hid (Ext w4 wr)) (fun x _ => N - (intOf x).toNat)
  case atStart => exact ⟨0, by omega, rfl, fun j hj => by omega, Ext.refl _⟩
  case round =>
    obtain ⟨i, hi, rfl, HJ, HEL⟩ := hrel
    by_cases hlt : i < N
    · have hlt' : i < li.length := by have := HLN.out; omega
      obtain ⟨b1, o1, rfl, hb1, hat⟩ := HIA.out (by omega)
      have hx := hat i hlt' wr (hE0.trans (HE4.out.trans HEL.out))
      have hb1' : b1 < wr.heap.size := Nat.lt_of_lt_of_le hb1 (hE0.trans (HE4.out.trans HEL.out)).size
      clear hat hb1
      have HBI := hide (HGB.out i hlt)
      have HN2 : Hid (outBad (li.getD i 0) = false → ∀ j, j < i + 1 → outBad (li.getD j 0) = false) := fun h j hj => by
        by_cases e : j = i
        · subst e; exact h
        · exact HJ.out j (by omega)
      generalize hxx : li.getD i 0 = x at hx HBI HN2
      clear hxx
      have HEV : Hid (Ext w wr) := hE0.trans (HE4.out.trans HEL.out)
      by_cases hx0 : x < 0
      · have HR := hide (HBI.out (by unfold outBad; simp [hx0]))
        have hd : decide (x < 0) = true := by simp [hx0]
        clear hx0
        go_wp2_with fail
        go_ret2
        rw [show res = ([], 2) from HRES.out.symm.trans (if_pos HR.out)]
        exact ⟨_, rfl, Coll.nil _ _, HEV.out⟩
      · have hd : decide (x < 0) = false := by simpa using hx0
        by_cases hx8 : 8 ≤ x
        · have HR := hide (HBI.out (by unfold outBad; simp [hx8]))
          have hd2 : decide (8 ≤ x) = true := by simp [hx8]
          clear hx0 hx8
          go_wp2_with fail
          go_ret2
          rw [show res = ([], 2) from HRES.out.symm.trans (if_pos HR.out)]
          exact ⟨_, rfl, Coll.nil _ _, HEV.out⟩
        · have HR := hide (HN2.out (by unfold outBad; simp [hx8, hx0]))
          have hd2 : decide (8 ≤ x) = false := by simpa using hx8
          clear hx0 hx8
          go_wp2_with fail
          go_roundw
          case rel => exact ⟨i + 1, by omega, by go_num, HR.out, HEL.out⟩
          case measure => simp [intOf]; omega
    · obtain rfl : N = i := by omega
      have HBAD := hide (HGN.out (fun j hj => HJ.out j (by have := HLN.out; omega)))
      have hEv := HE4.out.trans HEL.out
      have HRES := hide (HRES.out.symm.trans (if_neg (by rw [HBAD.out]; decide)))
      clear HJ HGB HGN
      have HOK := hide (HOK.out HBAD.out)
      by_cases h2 : givenS e 3 ≠ 0
      · have HRES := hide (HRES.out.trans (if_pos h2))
        have hd : (givenS e 3 != 0) = true := by simp [h2]
        clear h2
        generalize givenS e 3 = ge at HGI hd HRES
        obtain ⟨c0, c1, c2, hz⟩ := HB.out _ hEv
        go_wp2_with fail
        refine (HGI.out _ (hE0.trans hEv)).mono ?_
        rintro e' w5 ⟨rfl, hE5⟩
        go_wp2_with fail
        go_ret2
        rw [HRES.out]
        exact ⟨_, rfl, Coll.nil _ _, (hE0.trans hEv).trans hE5⟩
      have HRES := hide (HRES.out.trans (if_neg h2))
      have h20 : givenS e 3 = 0 := by simpa using h2
      rw [h20] at HGI
      clear h2 h20
      obtain ⟨c0, c1, c2, hz⟩ := HB.out _ hEv
      go_wp2_with fail
      refine (HGI.out _ (hE0.trans hEv)).mono ?_
      rintro e' w5 ⟨rfl, hE5⟩
      have hE45 := hEv.trans hE5
      clear c0 c1 c2 hz hE5
      go_wp2_with fail
      refine (HVC.out w5).mono ?_
      rintro e' w6 ⟨u, rfl, hu, hE6⟩
      have hEa := hE45.trans hE6
      obtain ⟨q, k, rfl⟩ := hu.sl
      rw [HVL.out] at hu ⊢
      have HU := hide hu
      have HEA := hide hEa
      clear hu hE45 hE6 hEa hEv
      clear HEL HE4
      obtain ⟨wl, rfl⟩ : ∃ wl : World, wl = wr := ⟨_, rfl⟩
      have hpow := hfew
      generalize M ^ N = L at *
      go_wp2_with fail
      go_loopw [14, 15] (fun u x wr => ∃ i : Nat, i ≤ L ∧ x = .int .i64 i ∧ Hid (Coll 38 3 icells 1 wr w6.heap.size u (sel i)) ∧ Hid (Ext w6 wr)) (fun _ x _ => L - (intOf x).toNat)
      case atStart => exact ⟨0, by omega, rfl, by rw [HS0.out]; exact Coll.nil _ _, Ext.refl _⟩
      case round =>
        obtain ⟨i, hi, rfl, HC, HE⟩ := hrel
        by_cases hlt : i < L
        · obtain ⟨c0, c1, c2, hz⟩ := HB.out _ (HEA.out.trans HE.out)
          obtain ⟨g, k', vv, hqe, hgz, hcl, hrow⟩ := (HU.out.ext HE.out).at_ (i := i) (by rw [HVL.out]; exact hlt)
          rw [HVL.out] at hqe
          injection hqe with hq1 _ hq3
          subst hq1 hq3
          rw [HVA.out i hlt] at hrow
          obtain ⟨q9, d9, rfl, -⟩ := hrow.1
          have HROW := hide hrow
          have HOKI := hide (fun W (hW : Ext wr W) => HOK.out i _ W (hE0.trans (HEA.out.trans (HE.out.trans hW))) (hrow.1.ext hW))
          clear hrow
          have HAFT : Hid (∀ w9, Ext wr w9 → w9.cell? ⟨g, i, none⟩ = some (.slice q9 (dig M N i).length d9) ∧ g < w9.heap.size) := fun w9 h9 => ⟨(h9.cell hgz).trans hcl, Nat.lt_of_lt_of_le hgz h9.size⟩
          have HEW : Hid (Ext w wr) := hE0.trans (HEA.out.trans HE.out)
          have HLI := hide (HLEN.out i)
          cases hp : holdOut N li e (dig M N i) with
          | true =>
            have HS := hide (HYES.out i hlt hp)
            have HOKI : Hid (∀ W, Ext wr W → Calls Tryd.prog 51 #[.agg #[.int .i64 e.op, .int .i64 e.num, .slice p e.args.length c], .int .i64 N, .slice pi li.length ci, .slice q9 (dig M N i).length d9] W fun e' w' => e' = .returned (.bool true) ∧ Ext W w') := fun W hW => by
              have := HOKI.out W hW
              rw [show holdsB ⟨N, li, dig M N i, gz⟩ e = true from hp] at this
              exact this
            clear hp
            generalize dig M N i = y at HS HOKI HROW HAFT hcl ⊢
            go_wp2_with fail
            refine wp_region_ext (by kernel_rfl) (by kernel_rfl) ?_
            repeat (go_big_quiet_step ((go_at_call 51; exact Calls.ext_of (HOKI.out _ (by simp [go_sem])))))
            refine wpQuiet_nil ?_
            rintro w9 ⟨⟨_, hE9⟩, rfl⟩
            obtain ⟨hcl9, hgz9⟩ := HAFT.out _ hE9
            have HC9 := hide (HC.out.ext hE9)
            clear c0 c1 c2 hz hcl hgz
            go_wp2_with (at_builtin; refine wpList_push rfl (.tmp 65) (.tmp 70) 30 rfl w6.heap.size 38 3 1 (by decide) Tryd.underlying30 islice_infoR _ (sel i) _ y w9.heap.size rfl (HC9.out.ext ((Ext.refl _).alloc _)) rfl (cell_new1 _ _ _) ((HROW.out.ext hE9).ext ((Ext.refl _).alloc _)) (by have := HLI.out; omega) (by have := HE.out.size; have := hE9.size; simp; omega) ?_; intro v3 w3 hc3 hg3 hf3)
            have HE6 : Hid (Ext w6 w3) := ((HE.out.trans hE9).alloc _).grown hg3 HC9.out.block_ge
            obtain ⟨g3, c3, rfl, -⟩ := hf3
            rw [← HS.out] at hc3
            have HC4 := hide hc3
            clear hc3 hg3
            go_roundw
            case rel => exact ⟨i + 1, by omega, by go_num, HC4.out, HE6.out⟩
            case measure => simp [intOf]; omega
          | false =>
            have HS := hide (HNO.out i hlt hp)
            have HOKI : Hid (∀ W, Ext wr W → Calls Tryd.prog 51 #[.agg #[.int .i64 e.op, .int .i64 e.num, .slice p e.args.length c], .int .i64 N, .slice pi li.length ci, .slice q9 (dig M N i).length d9] W fun e' w' => e' = .returned (.bool false) ∧ Ext W w') := fun W hW => by
              have := HOKI.out W hW
              rw [show holdsB ⟨N, li, dig M N i, gz⟩ e = false from hp] at this
              exact this
            clear hp
            generalize dig M N i = y at HS HOKI HROW HAFT hcl ⊢
            go_wp2_with fail
            refine wp_region_ext (by kernel_rfl) (by kernel_rfl) ?_
            repeat (go_big_quiet_step ((go_at_call 51; exact Calls.ext_of (HOKI.out _ (by simp [go_sem])))))
            refine wpQuiet_nil ?_
            rintro w9 ⟨⟨_, hE9⟩, rfl⟩
            clear c0 c1 c2 hz hcl hgz
            go_wp2_with fail
            go_roundw
            case rel => exact ⟨i + 1, by omega, by go_num, by rw [HS.out]; exact HC.out.ext hE9, HE.out.trans hE9⟩
            case measure => simp [intOf]; omega
        · obtain rfl : i = L := by omega
          have HLI := hide (HLEN.out i)
          obtain ⟨q7, c7, hu7⟩ := HC.out.sl
          have hd : decide ((1024 : Int) < ((sel i).length : Int)) = false := by have := HLI.out; simp; omega
          subst hu7
          have hEE : Ext w wr := hE0.trans (HEA.out.trans HE.out)
          rw [HFIN.out] at HC hd ⊢
          go_wp2_with fail
          go_ret2
          rw [HRES.out]
          exact ⟨_, rfl, HC.out.mono (hE0.trans HEA.out).size, hEE⟩
end Go.Proofs.YthpccmmdkbjjhaaDoor
