/-
  The walk of 'RoundRenames'.
  Conditions: the tables lie in the heap (Tz, Ml).
-/
import Derived.Test.YtfnhjalnbmnlaaaDoorAw15
import Derived.Test.YtfnhjalnbmnlaaaDoorRdFew
import Derived.Test.YtfnhjalnbmnlaaaDoorRdRen
import Derived.Test.YtfnhjalnbmnlaaaDoorTimes
import Derived.Test.YtfnhjalnbmnlaaaDoorPermQ
import Derived.Test.YtfnhjalnbmnlaaaDoorRPermA
namespace Go.Proofs.YtfnhjalnbmnlaaaDoor
open Go.RowKit
attribute [local go_sem] Oper.semAt_some

theorem prodS_ok' {m : Nat} {l : List Rd} (h : WordOk m l) : productS m l = (prodL m l, 0) := by unfold productS; rw [if_neg (fun k => k (word_ok h)), Int.toNat_natCast]
theorem oblS_ok' {m : Nat} {l : List Rd} (h : WordOk m l) : obligedS m l = (((oblN m l : Nat) : Int), 0) := by unfold obligedS; rw [if_neg (fun k => k (word_ok h)), Int.toNat_natCast]
theorem ren_all {l : List Rd} {a : List Int} (h : WordOk a.length l) (ha : PermOk a) : ∀ i, i < l.length → rpermS (l.getD i default) a = (permR (l.getD i default) a, 0) := fun i hi => rpermS_ok (h.wf i hi) ha
set_option maxRecDepth 100000 in
set_option maxHeartbeats 8000000 in
theorem rrenames_law (l : List Rd) (u : Value) (a : List Int) (v : Value) (b : List Int) (x : Value) (w : World) (hu : Row Rd.cells 7 w u l) (hv : Row icells 1 w v a) (hx : Row icells 1 w x b) (hT : Tz w) (hM : Ml w) : Calls Tryd.prog 8 #[u, v, x] w fun e w' => e = .returned (.bool true) ∧ Ext w w' := by
  have HAW := hide (fun W (hE : Ext w W) => awake_any W (hT.ext hE) (Ml.ext hM hE))
  have HP1 := hide (fun W (hE : Ext w W) => rpmcheck_any a v W (hv.ext hE))
  have HP2 := hide (fun W (hE : Ext w W) => rpmcheck_any b x W (hx.ext hE))
  have HG := hide (fun W (hE : Ext w W) => rdgood_any a.length l u W (hu.ext hE))
  have HE : Hid (Ext w w) := Ext.refl w
  have HU := hide hu
  have HV := hide hv
  have HX := hide hx
  have HTT := hide hT
  obtain ⟨p1, c1, rfl, hc1, hlen1, -⟩ := hu.rd_all
  obtain ⟨p2, c2, rfl, hc2, hlen2, -⟩ := hv.int_all
  obtain ⟨p3, c3, rfl, hc3, hlen3, -⟩ := hx.int_all
  clear hu hv hx hT hM
  by_cases h0 : a.length = 0
  case pos =>
    have hd : ((a.length : Int) == 0) = true := by rw [beq_iff_eq]; omega
    clear h0
    go_enter Tryd.func8, Tryd.ntmps8
    go_wp2_with fail
    refine (HAW.out _ HE.out).mono ?_
    rintro e w1 ⟨rfl, hE⟩
    have HE := hide (HE.out.trans hE)
    clear hE
    go_wp2_with fail
    go_ret
    exact ⟨rfl, HE.out⟩
  case neg =>
  have hd0 : ((a.length : Int) == 0) = false := by rw [beq_eq_false_iff_ne]; omega
  by_cases hab : b.length = a.length
  case neg =>
    have hn : ((a.length : Int) != (b.length : Int)) = true := by rw [bne_iff_ne]; omega
    clear h0 hab
    go_enter Tryd.func8, Tryd.ntmps8
    go_wp2_with fail
    refine (HAW.out _ HE.out).mono ?_
    rintro e w1 ⟨rfl, hE⟩
    have HE := hide (HE.out.trans hE)
    clear hE
    go_wp2_with fail
    go_ret
    exact ⟨rfl, HE.out⟩
  case pos =>
  have hn : ((a.length : Int) != (b.length : Int)) = false := by rw [bne_eq_false_iff_eq]; omega
  by_cases ha0 : permE a = 0
  case neg =>
    have hd : (permE a != 0) = true := by simp [ha0]
    generalize permE a = e1 at hd HP1
    clear h0 hab ha0
    go_enter Tryd.func8, Tryd.ntmps8
    go_wp2_with fail
    refine (HP1.out _ HE.out).mono ?_
    rintro e w1 ⟨rfl, hE⟩
    have HE := hide (HE.out.trans hE)
    clear hE
    go_wp2_with fail
    refine (HAW.out _ HE.out).mono ?_
    rintro e w2 ⟨rfl, hE⟩
    have HE := hide (HE.out.trans hE)
    clear hE
    go_wp2_with fail
    go_ret
    exact ⟨rfl, HE.out⟩
  case pos =>
  rw [ha0] at HP1
  by_cases hb0 : permE b = 0
  case neg =>
    have hd : (permE b != 0) = true := by simp [hb0]
    generalize permE b = e1 at hd HP2
    clear h0 hab ha0 hb0
    go_enter Tryd.func8, Tryd.ntmps8
    go_wp2_with fail
    refine (HP1.out _ HE.out).mono ?_
    rintro e w1 ⟨rfl, hE⟩
    have HE := hide (HE.out.trans hE)
    clear hE
    go_wp2_with fail
    refine (HP2.out _ HE.out).mono ?_
    rintro e w2 ⟨rfl, hE⟩
    have HE := hide (HE.out.trans hE)
    clear hE
    go_wp2_with fail
    refine (HAW.out _ HE.out).mono ?_
    rintro e w3 ⟨rfl, hE⟩
    have HE := hide (HE.out.trans hE)
    clear hE
    go_wp2_with fail
    go_ret
    exact ⟨rfl, HE.out⟩
  case pos =>
  rw [hb0] at HP2
  by_cases hg : l.length ≤ 12 ∧ wordE a.length l = 0
  case neg =>
    have hgl : goodB a.length l = false := decide_eq_false hg
    rw [hgl] at HG
    clear h0 hab ha0 hb0 hg hgl
    go_enter Tryd.func8, Tryd.ntmps8
    go_wp2_with fail
    refine (HP1.out _ HE.out).mono ?_
    rintro e w1 ⟨rfl, hE⟩
    have HE := hide (HE.out.trans hE)
    clear hE
    go_wp2_with fail
    refine (HP2.out _ HE.out).mono ?_
    rintro e w2 ⟨rfl, hE⟩
    have HE := hide (HE.out.trans hE)
    clear hE
    go_wp2_with fail
    refine (HG.out _ HE.out).mono ?_
    rintro e w3 ⟨rfl, hE⟩
    have HE := hide (HE.out.trans hE)
    clear hE
    go_wp2_with fail
    refine (HAW.out _ HE.out).mono ?_
    rintro e w4 ⟨rfl, hE⟩
    have HE := hide (HE.out.trans hE)
    clear hE
    go_wp2_with fail
    go_ret
    exact ⟨rfl, HE.out⟩
  case pos =>
  have hgl : goodB a.length l = true := decide_eq_true hg
  rw [hgl] at HG
  obtain ⟨m, hm, ho⟩ := word_of hg.2
  obtain rfl : a.length = m := by omega
  have pa := permE_ok ha0
  have pb := permE_ok hb0
  have pt := tmL_ok pa pb hab
  have hot := ren_word ho pa
  have HR1 := hide (fun W (hE : Ext w W) => renamed_any15 l a _ _ W (HU.out.ext hE) (HV.out.ext hE) ho.len (ren_all ho pa))
  have HR2 := hide (fun y W (hE : Ext w W) hy => renamed_any15 (renL l a) b y _ W hy (HX.out.ext hE) hot.len (ren_all (hab ▸ hot) pb))
  have hrr := ren_ren (l := l) (fun r hr => word_mem ho r hr) pa pb hab
  rw [hrr] at HR2
  have HR3 := hide (fun y W (hE : Ext w W) hy => renamed_any15 l (tmL b a) _ y W (HU.out.ext hE) hy ho.len (ren_all ((tmL_len b a).symm ▸ ho) pt))
  have HCM := hide (fun W (hE : Ext w W) => pcompose_ok b a pa hb0 ha0 hab _ _ W (HX.out.ext hE) (HV.out.ext hE))
  have HTM := hide (fun W (hE : Ext w W) => rtimes_ok b a pa hab _ _ W (HX.out.ext hE) (HV.out.ext hE))
  have HWD := hide (fun y W hy => word_ok hot ▸ rword_any a.length (renL l a) y W hy)
  have HQ1 := hide (fun W (hE : Ext w W) => prodS_ok' ho ▸ rdproduct_any a.length l _ W (HTT.out.ext hE) (HU.out.ext hE))
  have HQ2 := hide (fun y W (hE : Ext w W) hy => prodS_ok' hot ▸ rdproduct_any a.length (renL l a) y W (HTT.out.ext hE) hy)
  have HPG := hide (fun W (hE : Ext w W) => permS_wf (prod_wfL ho) pa ▸ permute_any (prodL a.length l) a _ W (HV.out.ext hE))
  have HO1 := hide (fun W (hE : Ext w W) => oblS_ok' ho ▸ rdobliged_any a.length l _ W (HU.out.ext hE))
  have HO2 := hide (fun y W hy => oblS_ok' hot ▸ rdobliged_any a.length (renL l a) y W hy)
  have hob := obl_law ho (Nat.le_refl _)
  have HST := hide (fun W (hE : Ext w W) => set_ok a pa ha0 (oblN a.length l) hob.2.2.2.1 _ W (HV.out.ext hE))
  rw [ren_obl ho pa] at HST
  rw [ren_prod ho pa] at HQ2
  have HL1 : Hid ((renL l a).length ≤ 17592186044416) := by show _ ≤ _; rw [renL_len]; have := ho.len; omega
  have HL2 : Hid ((renL l (tmL b a)).length ≤ 17592186044416) := by show _ ≤ _; rw [renL_len]; have := ho.len; omega
  have HTL := hide (tmL_len b a)
  have HSM := hide (fun y z W hy hz => rsame_rd (renL l (tmL b a)) (renL l (tmL b a)) y z W hy hz)
  rw [decide_eq_true (rfl : renL l (tmL b a) = renL l (tmL b a))] at HSM
  generalize oblN a.length (renL l a) = ob2 at HO2 HST
  generalize oblN a.length l = ob1 at HO1 HST
  generalize permG (prodL a.length l) a = g2 at HPG HQ2
  generalize prodL a.length l = g1 at HPG HQ1
  generalize renL l a = la at HR1 HR2 HWD HQ2 HO2 HL1
  generalize renL l (tmL b a) = lab at HR2 HR3 HSM HL2
  generalize tmL b a = tm at HR3 HCM HTM HTL
  clear hot hrr ho pa pb pt ha0 hb0 hg hgl hab h0 hob hm HTT HU HX HV
  go_enter Tryd.func8, Tryd.ntmps8
  go_wp2_with fail
  refine (HP1.out _ HE.out).mono ?_
  rintro e w1 ⟨rfl, hE⟩
  have HE := hide (HE.out.trans hE)
  clear hE
  go_wp2_with fail
  refine (HP2.out _ HE.out).mono ?_
  rintro e w2 ⟨rfl, hE⟩
  have HE := hide (HE.out.trans hE)
  clear hE
  go_wp2_with fail
  refine (HG.out _ HE.out).mono ?_
  rintro e w3 ⟨rfl, hE⟩
  have HE := hide (HE.out.trans hE)
  clear hE
  go_wp2_with fail
  refine (HR1.out _ HE.out).mono ?_
  rintro e w4 ⟨x1, rfl, hO, hE⟩
  have HE := hide (HE.out.trans hE)
  have HA1 := hide (hO.row HL1.out)
  clear hE hO
  go_wp2_with fail
  refine (HR2.out _ _ HE.out HA1.out).mono ?_
  rintro e w5 ⟨x2, rfl, hO, hE⟩
  have HE := hide (HE.out.trans hE)
  have HA1 := hide (HA1.out.ext hE)
  have HA2 := hide (hO.row HL2.out)
  clear hE hO
  go_wp2_with fail
  refine (HCM.out _ HE.out).mono ?_
  rintro e w6 ⟨y1, rfl, hy, hE⟩
  have HE := hide (HE.out.trans hE)
  have HA1 := hide (HA1.out.ext hE)
  have HA2 := hide (HA2.out.ext hE)
  have HY := hide hy
  obtain ⟨p4, c4, rfl, -⟩ := hy.int_all
  rw [HTL.out] at HY ⊢
  clear hE hy
  go_wp2_with fail
  refine (HWD.out _ _ HA1.out).mono ?_
  rintro e w7 ⟨rfl, hE⟩
  have HE := hide (HE.out.trans hE)
  have HA1 := hide (HA1.out.ext hE)
  have HA2 := hide (HA2.out.ext hE)
  have HY := hide (HY.out.ext hE)
  clear hE
  go_wp2_with fail
  refine (HR3.out _ _ HE.out HY.out).mono ?_
  rintro e w8 ⟨x3, rfl, hO, hE⟩
  have HE := hide (HE.out.trans hE)
  have HA1 := hide (HA1.out.ext hE)
  have HA2 := hide (HA2.out.ext hE)
  have HA3 := hide (hO.row HL2.out)
  clear hE hO
  go_wp2_with fail
  refine (HTM.out _ HE.out).mono ?_
  rintro e w9 ⟨y2, rfl, hy, hE⟩
  have HE := hide (HE.out.trans hE)
  have HA1 := hide (HA1.out.ext hE)
  have HA2 := hide (HA2.out.ext hE)
  have HA3 := hide (HA3.out.ext hE)
  have HY2 := hide hy
  clear hE hy
  go_wp2_with fail
  refine (HR3.out _ _ HE.out HY2.out).mono ?_
  rintro e w10 ⟨x4, rfl, hO, hE⟩
  have HE := hide (HE.out.trans hE)
  have HA1 := hide (HA1.out.ext hE)
  have HA2 := hide (HA2.out.ext hE)
  have HA3 := hide (HA3.out.ext hE)
  have HA4 := hide (hO.row HL2.out)
  clear hE hO
  go_wp2_with fail
  refine (HQ1.out _ HE.out).mono ?_
  rintro e w11 ⟨rfl, hE⟩
  have HE := hide (HE.out.trans hE)
  have HA1 := hide (HA1.out.ext hE)
  have HA2 := hide (HA2.out.ext hE)
  have HA3 := hide (HA3.out.ext hE)
  have HA4 := hide (HA4.out.ext hE)
  clear hE
  go_upto_region 12 with fail
  have HB16 : Hid (GrBox (w11.alloc (gobj g1)) w11.heap.size g1) := gr_new w11 _
  have hE := (Ext.refl w11).alloc (gobj g1)
  have HE := hide (HE.out.trans hE)
  have HA1 := hide (HA1.out.ext hE)
  have HA2 := hide (HA2.out.ext hE)
  have HA3 := hide (HA3.out.ext hE)
  have HA4 := hide (HA4.out.ext hE)
  clear hE
  change Code.wp _ _ _ _ (w11.alloc (gobj g1))
  generalize w11.alloc (gobj g1) = W11 at HB16 HE HA1 HA2 HA3 HA4 ⊢
  generalize w11.heap.size = b16 at HB16 ⊢
  go_wp2_with fail
  refine (HQ2.out _ _ HE.out HA1.out).mono ?_
  rintro e w12 ⟨rfl, hE⟩
  have HE := hide (HE.out.trans hE)
  have HA1 := hide (HA1.out.ext hE)
  have HA2 := hide (HA2.out.ext hE)
  have HA3 := hide (HA3.out.ext hE)
  have HA4 := hide (HA4.out.ext hE)
  have HB16 := hide (HB16.out.ext hE)
  clear hE
  go_upto_region 13 with fail
  have HB17 : Hid (GrBox (w12.alloc (gobj g2)) w12.heap.size g2) := gr_new w12 _
  have hE := (Ext.refl w12).alloc (gobj g2)
  have HE := hide (HE.out.trans hE)
  have HA1 := hide (HA1.out.ext hE)
  have HA2 := hide (HA2.out.ext hE)
  have HA3 := hide (HA3.out.ext hE)
  have HA4 := hide (HA4.out.ext hE)
  have HB16 := hide (HB16.out.ext hE)
  clear hE
  change Code.wp _ _ _ _ (w12.alloc (gobj g2))
  generalize w12.alloc (gobj g2) = W12 at HB16 HB17 HE HA1 HA2 HA3 HA4 ⊢
  generalize w12.heap.size = b17 at HB17 ⊢
  obtain ⟨c0, c1, c2, c3, c4, c5, cz⟩ := HB16.out.cells
  go_wp2_with fail
  clear c0 c1 c2 c3 c4 c5 cz
  refine (HPG.out _ HE.out).mono ?_
  rintro e w13 ⟨rfl, hE⟩
  have HE := hide (HE.out.trans hE)
  have HA1 := hide (HA1.out.ext hE)
  have HA2 := hide (HA2.out.ext hE)
  have HA3 := hide (HA3.out.ext hE)
  have HA4 := hide (HA4.out.ext hE)
  have HB17 := hide (HB17.out.ext hE)
  clear hE
  go_upto_region 14 with fail
  have HB19 : Hid (GrBox (w13.alloc (gobj g2)) w13.heap.size g2) := gr_new w13 _
  have hE := (Ext.refl w13).alloc (gobj g2)
  have HE := hide (HE.out.trans hE)
  have HA1 := hide (HA1.out.ext hE)
  have HA2 := hide (HA2.out.ext hE)
  have HA3 := hide (HA3.out.ext hE)
  have HA4 := hide (HA4.out.ext hE)
  have HB17 := hide (HB17.out.ext hE)
  clear hE
  change Code.wp _ _ _ _ (w13.alloc (gobj g2))
  generalize w13.alloc (gobj g2) = W13 at HB17 HB19 HE HA1 HA2 HA3 HA4 ⊢
  generalize w13.heap.size = b19 at HB19 ⊢
  go_wp2_with fail
  refine (HO1.out _ HE.out).mono ?_
  rintro e w14 ⟨rfl, hE⟩
  have HE := hide (HE.out.trans hE)
  have HA1 := hide (HA1.out.ext hE)
  have HA2 := hide (HA2.out.ext hE)
  have HA3 := hide (HA3.out.ext hE)
  have HA4 := hide (HA4.out.ext hE)
  have HB17 := hide (HB17.out.ext hE)
  have HB19 := hide (HB19.out.ext hE)
  clear hE
  go_wp2_with fail
  refine (HO2.out _ _ HA1.out).mono ?_
  rintro e w15 ⟨rfl, hE⟩
  have HE := hide (HE.out.trans hE)
  have HA2 := hide (HA2.out.ext hE)
  have HA3 := hide (HA3.out.ext hE)
  have HA4 := hide (HA4.out.ext hE)
  have HB17 := hide (HB17.out.ext hE)
  have HB19 := hide (HB19.out.ext hE)
  clear hE
  go_wp2_with fail
  refine (HST.out _ HE.out).mono ?_
  rintro e w16 ⟨rfl, hE⟩
  have HE := hide (HE.out.trans hE)
  have HA2 := hide (HA2.out.ext hE)
  have HA3 := hide (HA3.out.ext hE)
  have HA4 := hide (HA4.out.ext hE)
  have HB17 := hide (HB17.out.ext hE)
  have HB19 := hide (HB19.out.ext hE)
  clear hE
  go_wp2_with fail
  refine (HSM.out _ _ _ HA2.out HA3.out).mono ?_
  rintro e w17 ⟨rfl, hE⟩
  have HE := hide (HE.out.trans hE)
  have HA3 := hide (HA3.out.ext hE)
  have HA4 := hide (HA4.out.ext hE)
  have HB17 := hide (HB17.out.ext hE)
  have HB19 := hide (HB19.out.ext hE)
  clear hE
  go_wp2_with fail
  refine (HSM.out _ _ _ HA3.out HA4.out).mono ?_
  rintro e w18 ⟨rfl, hE⟩
  have HE := hide (HE.out.trans hE)
  have HB17 := hide (HB17.out.ext hE)
  have HB19 := hide (HB19.out.ext hE)
  clear hE
  obtain ⟨c0, c1, c2, c3, c4, c5, cz⟩ := HB17.out.cells
  obtain ⟨d0, d1, d2, d3, d4, d5, dz⟩ := HB19.out.cells
  have heq := eqg_rd g2
  go_wp2_with fail
  clear c0 c1 c2 c3 c4 c5 cz d0 d1 d2 d3 d4 d5 dz heq
  refine (HAW.out _ HE.out).mono ?_
  rintro e w19 ⟨rfl, hE⟩
  have HE := hide (HE.out.trans hE)
  clear hE
  go_wp2_with fail
  go_ret
  exact ⟨rfl, HE.out⟩
end Go.Proofs.YtfnhjalnbmnlaaaDoor
