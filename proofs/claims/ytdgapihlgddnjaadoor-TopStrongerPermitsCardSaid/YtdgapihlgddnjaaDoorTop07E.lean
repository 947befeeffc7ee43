/-
  The walk of TopStrongerPermits.
  Conditions: the table expr.rows lies in the heap.
-/
import Derived.Test.YtdgapihlgddnjaaDoorTop07C
import Derived.Test.YtdgapihlgddnjaaDoorTop07R
namespace Go.Proofs.YtdgapihlgddnjaaDoor
open Go.RowKit
attribute [local go_sem] Oper.semAt_some

theorem pts1_any (x n i m : Int) (u : Value) (b : Nat) (w : World) (hb : TBox w b (.int .i64 n) (.int .i64 i) (.int .i64 m) u) :
    Calls Tryd.prog 18 #[.int .i64 x, .pointer (some ⟨b, 0, none⟩)] w fun e w' => e = .returned (.bool (decide (m ≤ x))) ∧ Ext w w' := by
  obtain ⟨t0, t1, t2, t3⟩ := hb.cells
  have hz := lt_of_heap hb
  go_enter Tryd.func18, Tryd.ntmps18
  go_wp2_with fail
  go_ret
  exact ⟨rfl, Ext.refl _⟩
theorem enters_pts1 : ∀ args w, (callFunc 18 args).run Tryd.prog w = .ok (.enter 18 args) w := fun _ _ => by kernel_rfl
theorem findS_of {T : Tk} (h : tkE T = 0) {x : List Int} {k : Nat} (hk : k < T.cs.length) (he : (T.cs.getD k default).inp = x) : findS T x = ((k : Int), 0) := by
  unfold findS
  rw [if_neg (fun j => j h), fnd_at (tk_ok h) hk he, if_pos (by omega)]
theorem findS_ge {T : Tk} (h : tkE T = 0) {x : List Int} (hx : 0 ≤ fnd T x) : findS T x = (fnd T x, 0) := by
  unfold findS
  rw [if_neg (fun j => j h), if_pos hx]
theorem findS_no {T : Tk} (h : tkE T = 0) {x : List Int} (hx : fnd T x < 0) : findS T x = (0, 6) := by
  unfold findS
  rw [if_neg (fun j => j h), if_neg (by omega)]
/-- What the search for a witness yields, for tasks that are well-formed. -/
theorem strR_ok {S T : Tk} (h : pairE S T = 0) : strR S T = match strS S T with | some (x, f, o) => (x, f, o, false, 0) | none => ([], 0, [], true, 0) := by
  unfold strR
  rw [if_neg (fun k => k h)]
  rfl
theorem pairE_zero {S T : Tk} (h1 : tkE S = 0) (h2 : tkE T = 0) (h3 : S.n = T.n) : pairE S T = 0 := by
  unfold pairE
  rw [if_neg (fun k => k h1), if_neg (fun k => k h2), if_neg (fun k => k h3)]
set_option maxRecDepth 16000 in
set_option maxHeartbeats 8000000 in
theorem topstr_law (S T : Tk) (v u : Value) (a b : Nat) (w : World) (hT : Tab w) (hv : TkRep w v S) (hu : TkRep w u T) (ha : a < 256) (hb : b < 256) :
    Calls Tryd.prog 4 #[v, u, .agg #[.int .u8 a, .int .u8 b]] w fun e w' => e = .returned (.bool true) ∧ Ext w w' := by
  have HV := hide hv
  have HU := hide hu
  have HTB := hide hT
  obtain ⟨p, c, rfl, -, hSl, -⟩ := hv.all_
  obtain ⟨q, d, rfl, -, hTl, hat⟩ := hu.all_
  have HA := hide hat
  clear hv hu hT hat
  obtain ⟨w2, hw2⟩ : ∃ w2, ((w.alloc (.cells #[.int .i64 S.n, .int .i64 S.ins, .int .i64 S.outs, .slice p S.cs.length c] 24)).alloc (.cells #[.int .i64 T.n, .int .i64 T.ins, .int .i64 T.outs, .slice q T.cs.length d] 24)).alloc (.cells #[.int .u8 a, .int .u8 b] 40) = w2 := ⟨_, rfl⟩
  have HE : Hid (Ext w w2) := by show Ext _ _; rw [← hw2]; exact (((Ext.refl w).alloc _).alloc _).alloc _
  have HS : Hid (TBox w2 w.heap.size (.int .i64 S.n) (.int .i64 S.ins) (.int .i64 S.outs) (.slice p S.cs.length c)) := by
    show _ = _
    rw [← hw2, Below.heap_alloc _ _ _ (by simp; omega), Below.heap_alloc _ _ _ (by simp)]
    exact heap_alloc_new w _
  have HT : Hid (TBox w2 (w.heap.size + 1) (.int .i64 T.n) (.int .i64 T.ins) (.int .i64 T.outs) (.slice q T.cs.length d)) := by show _ = _; rw [← hw2]; exact at3_1 _ _ _ _ _ _ _
  have HP : Hid (w2.heap[w.heap.size + 1 + 1]? = some (.cells #[.int .u8 a, .int .u8 b] 40 (0, 0))) := by show _ = _; rw [← hw2]; exact at3_2 _ _ _ _ _ _ _
  have HW2 := hide hw2
  clear hw2
  go_enter Tryd.func4, Tryd.ntmps4
  go_wp2_with fail
  rw [HW2.out]
  refine (awake07_any w2 (HTB.out.ext HE.out)).mono ?_
  rintro e w3 ⟨rfl, hE3⟩
  have HS3 := hide (HS.out.ext hE3)
  have HT3 := hide (HT.out.ext hE3)
  have HP3 := hide ((hE3.b.block _ (lt_of_heap HP.out)).trans HP.out)
  have HE3 := hide (HE.out.trans hE3)
  clear hE3 HS HT HP HE HW2
  obtain ⟨s0, s1, s2, s3⟩ := HS3.out.cells
  have sz := lt_of_heap HS3.out
  go_wp2_with fail
  refine (rfewT_any S _ w3 (HV.out.ext HE3.out)).mono ?_
  rintro e w4 ⟨rfl, hE4⟩
  have HS4 := hide (HS3.out.ext hE4)
  have HT4 := hide (HT3.out.ext hE4)
  have HP4 := hide ((hE4.b.block _ (lt_of_heap HP3.out)).trans HP3.out)
  have HE4 := hide (HE3.out.trans hE4)
  clear hE4 HS3 HT3 HP3 HE3 s0 s1 s2 s3 sz
  cases fewT S with
  | false =>
    go_wp2_with fail
    go_ret
    exact ⟨rfl, HE4.out⟩
  | true =>
  obtain ⟨s0, s1, s2, s3⟩ := HT4.out.cells
  have sz := lt_of_heap HT4.out
  go_wp2_with fail
  refine (rfewT_any T _ w4 (HU.out.ext HE4.out)).mono ?_
  rintro e w5 ⟨rfl, hE5⟩
  have HS5 := hide (HS4.out.ext hE5)
  have HT5 := hide (HT4.out.ext hE5)
  have HP5 := hide ((hE5.b.block _ (lt_of_heap HP4.out)).trans HP4.out)
  have HE5 := hide (HE4.out.trans hE5)
  clear hE5 HS4 HT4 HP4 HE4 s0 s1 s2 s3 sz
  cases fewT T with
  | false =>
    go_wp2_with fail
    go_ret
    exact ⟨rfl, HE5.out⟩
  | true =>
  obtain ⟨s0, s1, s2, s3⟩ := HS5.out.cells
  have sz := lt_of_heap HS5.out
  go_wp2_with fail
  refine (rtcheck_any S _ w5 (HV.out.ext HE5.out)).mono ?_
  rintro e w6 ⟨rfl, hE6⟩
  have HS6 := hide (HS5.out.ext hE6)
  have HT6 := hide (HT5.out.ext hE6)
  have HP6 := hide ((hE6.b.block _ (lt_of_heap HP5.out)).trans HP5.out)
  have HE6 := hide (HE5.out.trans hE6)
  clear hE6 HS5 HT5 HP5 HE5 s0 s1 s2 s3 sz
  by_cases hs0 : tkE S = 0
  case neg =>
    have hd : (tkE S != 0) = true := by simp [hs0]
    clear hs0
    go_wp2_with fail
    go_ret
    exact ⟨rfl, HE6.out⟩
  case pos =>
  have HS0 := hide hs0
  rw [hs0]
  clear hs0
  obtain ⟨s0, s1, s2, s3⟩ := HT6.out.cells
  have sz := lt_of_heap HT6.out
  go_wp2_with fail
  refine (rtcheck_any T _ w6 (HU.out.ext HE6.out)).mono ?_
  rintro e w7 ⟨rfl, hE7⟩
  have HS7 := hide (HS6.out.ext hE7)
  have HT7 := hide (HT6.out.ext hE7)
  have HP7 := hide ((hE7.b.block _ (lt_of_heap HP6.out)).trans HP6.out)
  have HE7 := hide (HE6.out.trans hE7)
  clear hE7 HS6 HT6 HP6 HE6 s0 s1 s2 s3 sz
  by_cases ht0 : tkE T = 0
  case neg =>
    have hd : (tkE T != 0) = true := by simp [ht0]
    clear ht0
    go_wp2_with fail
    go_ret
    exact ⟨rfl, HE7.out⟩
  case pos =>
  have HT0 := hide ht0
  rw [ht0]
  clear ht0
  obtain ⟨s0, s1, s2, s3⟩ := HS7.out.cells
  have sz := lt_of_heap HS7.out
  obtain ⟨t0, t1, t2, t3⟩ := HT7.out.cells
  have tz := lt_of_heap HT7.out
  by_cases hn : S.n = T.n
  case neg =>
    have hd : (S.n != T.n) = true := by simp [hn]
    clear hn
    go_wp2_with fail
    go_ret
    exact ⟨rfl, HE7.out⟩
  case pos =>
  have hd : (S.n != T.n) = false := by simp [hn]
  have HNN := hide hn
  clear hn
  by_cases hn3 : 3 < S.n
  · have hd3 : decide (3 < S.n) = true := decide_eq_true hn3
    clear hn3
    go_wp2_with fail
    go_ret
    exact ⟨rfl, HE7.out⟩
  have hd3 : decide (3 < S.n) = false := decide_eq_false hn3
  have HN3 : Hid (S.n ≤ 3) := by show S.n ≤ 3; omega
  clear hn3
  go_wp2_with fail
  clear hd hd3
  have HPE := hide (pairE_zero HS0.out HT0.out HNN.out)
  have HSR := hide (pstronger_any S T _ _ w7 (HV.out.ext HE7.out) (HU.out.ext HE7.out))
  clear s0 s1 s2 s3 sz t0 t1 t2 t3 tz
  cases hst : strS S T with
  | some pr =>
    obtain ⟨x, f, o⟩ := pr
    have hr : strR S T = (x, f, o, false, 0) := by rw [strR_ok HPE.out, hst]
    obtain ⟨k, hk, hkx, hcase⟩ := strS_some hst
    have hsr := HSR.out
    rw [hr] at hsr
    have HFT := hide (findS_of HT0.out hk hkx)
    have HK := hide (And.intro hk hkx)
    refine hsr.mono ?_
    clear hsr hr hst HSR
    rintro e w8 ⟨u1, u2, rfl, hr1, hr2, hE8⟩
    have HR1 := hide hr1
    have HR2 := hide hr2
    obtain ⟨p1, c1, rfl, -⟩ := hr1.int_all
    obtain ⟨p2, c2, rfl, -⟩ := hr2.int_all
    have HS8 := hide (HS7.out.ext hE8)
    have HT8 := hide (HT7.out.ext hE8)
    have HE8 := hide (HE7.out.trans hE8)
    clear hE8 hr1 hr2 HS7 HT7 HE7
    obtain ⟨s0, s1, s2, s3⟩ := HS8.out.cells
    have sz := lt_of_heap HS8.out
    go_wp2_with fail
    refine (find_any S x _ _ w8 (HV.out.ext HE8.out) HR1.out).mono ?_
    rintro e w9 ⟨rfl, hE9⟩
    have HS9 := hide (HS8.out.ext hE9)
    have HT9 := hide (HT8.out.ext hE9)
    have HR1 := hide (HR1.out.ext hE9)
    have HR2 := hide (HR2.out.ext hE9)
    have HE9 := hide (HE8.out.trans hE9)
    clear hE9 HS8 HT8 HE8 s0 s1 s2 s3 sz
    obtain ⟨t0, t1, t2, t3⟩ := HT9.out.cells
    have tz := lt_of_heap HT9.out
    go_wp2_with fail
    have hft := find_any T x _ _ w9 (HU.out.ext HE9.out) HR1.out
    rw [HFT.out] at hft
    refine hft.mono ?_
    clear hft
    rintro e w10 ⟨rfl, hE10⟩
    have HS10 := hide (HS9.out.ext hE10)
    have HT10 := hide (HT9.out.ext hE10)
    have HR2 := hide (HR2.out.ext hE10)
    have HE10 := hide (HE9.out.trans hE10)
    clear hE10 HS9 HT9 HE9 t0 t1 t2 t3 tz
    rcases hcase with ⟨hn, rfl, rfl⟩ | ⟨hn, hf, ho, hnot⟩
    · rw [findS_no HS0.out hn]
      clear hn
      go_wp2_with fail
      go_ret
      exact ⟨rfl, HE10.out⟩
    · rw [findS_ge HS0.out hn]
      obtain ⟨hi1, hi2⟩ := fnd_ok HS0.out hn
      obtain ⟨i, hi⟩ : ∃ i : Nat, fnd S x = i := ⟨(fnd S x).toNat, by omega⟩
      rw [hi] at hi1 ho ⊢
      rw [Int.toNat_natCast] at hi1 ho
      obtain ⟨hm1, hm2, hm3⟩ := wit_may HS0.out hi1 hf ho
      have HM1 := hide hm1
      have HM2 := hide (And.intro hm2 hm3)
      have HNOT := hide hnot
      have HFF := hide hf
      clear hn hi hi1 hi2 hf ho hnot hm1 hm2 hm3
      obtain ⟨s0, s1, s2, s3⟩ := HS10.out.cells
      have sz := lt_of_heap HS10.out
      go_wp2_with fail
      have hpm := permitted_any S i f o _ _ w10 (HV.out.ext HE10.out) HR2.out
      rw [HM1.out] at hpm
      refine hpm.mono ?_
      clear hpm
      rintro e w11 ⟨rfl, hE11⟩
      have HT11 := hide (HT10.out.ext hE11)
      have HR2 := hide (HR2.out.ext hE11)
      have HE11 := hide (HE10.out.trans hE11)
      clear hE11 HS10 HT10 HE10 s0 s1 s2 s3 sz
      go_wp2_with fail
      have HCF := hide (containsI_g (fun v => decide (T.outs ≤ v)) 18 #[.pointer (some ⟨w.heap.size + 1, 0, none⟩)] o _ w11 HR2.out enters_pts1 (fun x W hW => pts1_any x _ _ _ _ _ W (HT11.out.ext hW)))
      have HAN : Hid ((o.any fun v => decide (T.outs ≤ v)) = false → permS T k f o = (false, 0)) := fun h => by
        refine wit_not HT0.out HK.out.1 (by rw [← HNN.out]; exact HFF.out) (by rw [← HNN.out]; exact HM2.out.1) (fun x hx => ⟨(HM2.out.2 x hx).1, ?_⟩) HNOT.out
        have := List.any_eq_false.1 h x hx
        simp at this
        omega
      generalize (o.any fun v => decide (T.outs ≤ v)) = an at HCF HAN
      refine HCF.out.mono ?_
      rintro e w12 ⟨rfl, hE12⟩
      have HT12 := hide (HT11.out.ext hE12)
      have HR2 := hide (HR2.out.ext hE12)
      have HE12 := hide (HE11.out.trans hE12)
      clear hE12 HT11 HE11
      cases an with
      | true =>
        go_wp2_with fail
        go_ret
        exact ⟨rfl, HE12.out⟩
      | false =>
        obtain ⟨t0, t1, t2, t3⟩ := HT12.out.cells
        have tz := lt_of_heap HT12.out
        have HPN := hide (HAN.out rfl)
        go_wp2_with fail
        have hpm := permitted_any T k f o _ _ w12 (HU.out.ext HE12.out) HR2.out
        rw [HPN.out] at hpm
        refine hpm.mono ?_
        clear hpm
        rintro e w13 ⟨rfl, hE13⟩
        clear t0 t1 t2 t3 tz
        go_wp2_with fail
        go_ret
        exact ⟨rfl, HE12.out.trans hE13⟩
  | none =>
    have hr : strR S T = ([], 0, [], true, 0) := by rw [strR_ok HPE.out, hst]
    have hsr := HSR.out
    rw [hr] at hsr
    have HNONE := hide hst
    refine hsr.mono ?_
    clear hsr hr hst HSR
    rintro e w8 ⟨u1, u2, rfl, hr1, hr2, hE8⟩
    obtain ⟨p1, c1, rfl, -⟩ := hr1.int_all
    obtain ⟨p2, c2, rfl, -⟩ := hr2.int_all
    have HS8 := hide (HS7.out.ext hE8)
    have HT8 := hide (HT7.out.ext hE8)
    have HP8 := hide ((hE8.b.block _ (lt_of_heap HP7.out)).trans HP7.out)
    have HE8 := hide (HE7.out.trans hE8)
    clear hE8 hr1 hr2 HS7 HT7 HE7
    go_upto_region 20 with fail
    have hlen := (tk_ok HT0.out).l1
    have hlen2 := (tk_ok HT0.out).l2
    obtain ⟨b0, o0, rfl, hb0, hat⟩ := HA.out (by omega)
    obtain ⟨m, hm⟩ : ∃ m : Nat, a % T.cs.length = m := ⟨_, rfl⟩
    have hml : m < T.cs.length := by rw [← hm]; exact Nat.mod_lt _ (by omega)
    have hmi : (a : Int) % (T.cs.length : Int) = (m : Int) := by rw [← hm]; exact (Int.natCast_emod a T.cs.length).symm
    obtain ⟨q0, k0, q1, k1, q2, k2, hC⟩ := hat m hml
    have HMAY0 := hide (fun f o h1 h2 h3 => str_may HS0.out HT0.out HNN.out (f := f) (o := o) hml h1 h2 h3 HNONE.out)
    have hfn := (strS_none HNONE.out hml).1
    have hfT := findS_of HT0.out hml rfl
    obtain ⟨cx, hcx⟩ : ∃ cx, T.cs.getD m default = cx := ⟨_, rfl⟩
    rw [hcx] at hC HMAY0 hfn hfT
    have hfS := findS_ge HS0.out hfn
    obtain ⟨i, hi⟩ : ∃ i : Nat, fnd S cx.inp = i := ⟨(fnd S cx.inp).toNat, by omega⟩
    rw [hi] at HMAY0 hfS
    have HFS := hide hfS
    have HFT := hide hfT
    have HC := hide hC
    have HBZ := hide hb0
    clear hcx hfn hfT hfS hi
    have HMI := hide hmi
    have HML := hide hml
    have hlz : ¬ (T.cs.length : Int) = 0 := by omega
    have hlz0 : ((T.cs.length : Int) == 0) = false := by rw [beq_eq_false_iff_ne]; omega
    have hmz : (m : Int) < (T.cs.length : Int) := by omega
    have ha0 : (0 : Int) ≤ (a : Int) := by omega
    have ha1 : (a : Int) ≤ 255 := by omega
    clear hat hm hmi hC hb0
    refine wp_region_heldB (fun Z => Ext w8 Z) (fun _ => false) (by kernel_rfl) ?_
    intro Z8 hZ8
    have hSd : Ext w8 Z8 := by rw [hZ8]; exact (Ext.refl _).drew
    clear hZ8
    refine wpAnyT_takeB (i := 0) (.pointer (some ⟨w.heap.size + 1, 3, none⟩)) rfl (by kernel_rfl) (fun j hj => by cases hj) (by kernel_rfl) (by kernel_rfl) (by simp [Region.wanted]) (fun Z hZ => by
      go_simp) hSd ?_
    try simp only [Act.put, List.getElem_toArray, List.getElem_cons_zero, List.setIfInBounds_toArray, List.set_cons_zero, List.set_cons_succ]
    refine wpAnyT_takeB (i := 1) (.slice (some ⟨b0, o0, none⟩) T.cs.length d) rfl (by kernel_rfl) (fun j hj => by cases hj) (by kernel_rfl) (by kernel_rfl) (by simp [Region.wanted]) (fun Z hZ => by
      obtain ⟨t0, t1, t2, t3⟩ := (HT8.out.ext hZ).cells
      have tz := lt_of_heap (HT8.out.ext hZ)
      go_simp) hSd ?_
    try simp only [Act.put, List.getElem_toArray, List.getElem_cons_zero, List.setIfInBounds_toArray, List.set_cons_zero, List.set_cons_succ]
    refine wpAnyT_takeB (i := 2) (.pointer (some ⟨w.heap.size + 1 + 1, 0, none⟩)) rfl (by kernel_rfl) (fun j hj => by cases hj) (by kernel_rfl) (by kernel_rfl) (by simp [Region.wanted]) (fun Z hZ => by
      go_simp) hSd ?_
    try simp only [Act.put, List.getElem_toArray, List.getElem_cons_zero, List.setIfInBounds_toArray, List.set_cons_zero, List.set_cons_succ]
    refine wpAnyT_takeB (i := 3) (.int .u8 a) rfl (by kernel_rfl) (fun j hj => by cases hj) (by kernel_rfl) (by kernel_rfl) (by simp [Region.wanted]) (fun Z hZ => by
      have p0 := decl_cells ((hZ.b.block _ (lt_of_heap HP8.out)).trans HP8.out) 0
      have pz := lt_of_heap ((hZ.b.block _ (lt_of_heap HP8.out)).trans HP8.out)
      go_simp) hSd ?_
    try simp only [Act.put, List.getElem_toArray, List.getElem_cons_zero, List.setIfInBounds_toArray, List.set_cons_zero, List.set_cons_succ]
    refine wpAnyT_takeB (i := 4) (.int .i64 a) rfl (by kernel_rfl) (fun j hj => by cases hj) (by kernel_rfl) (by kernel_rfl) (by simp [Region.wanted]) (fun Z hZ => by
      have i64z : IntKind.i64.wrap (a : Int) = (a : Int) := IntWalk.i64_in _ (by omega)
      go_simp) hSd ?_
    try simp only [Act.put, List.getElem_toArray, List.getElem_cons_zero, List.setIfInBounds_toArray, List.set_cons_zero, List.set_cons_succ]
    refine wpAnyT_takeB (i := 5) (.pointer (some ⟨w.heap.size + 1, 3, none⟩)) rfl (by kernel_rfl) (fun j hj => by cases hj) (by kernel_rfl) (by kernel_rfl) (by simp [Region.wanted]) (fun Z hZ => by
      go_simp) hSd ?_
    try simp only [Act.put, List.getElem_toArray, List.getElem_cons_zero, List.setIfInBounds_toArray, List.set_cons_zero, List.set_cons_succ]
    refine wpAnyT_takeB (i := 6) (.slice (some ⟨b0, o0, none⟩) T.cs.length d) rfl (by kernel_rfl) (fun j hj => by cases hj) (by kernel_rfl) (by kernel_rfl) (by simp [Region.wanted]) (fun Z hZ => by
      obtain ⟨t0, t1, t2, t3⟩ := (HT8.out.ext hZ).cells
      have tz := lt_of_heap (HT8.out.ext hZ)
      go_simp) hSd ?_
    try simp only [Act.put, List.getElem_toArray, List.getElem_cons_zero, List.setIfInBounds_toArray, List.set_cons_zero, List.set_cons_succ]
    refine wpAnyT_takeB (i := 7) (.int .i64 T.cs.length) rfl (by kernel_rfl) (fun j hj => by cases hj) (by kernel_rfl) (by kernel_rfl) (by simp [Region.wanted]) (fun Z hZ => by
      go_simp) hSd ?_
    try simp only [Act.put, List.getElem_toArray, List.getElem_cons_zero, List.setIfInBounds_toArray, List.set_cons_zero, List.set_cons_succ]
    refine wpAnyT_takeB (i := 8) (.int .i64 m) rfl (by kernel_rfl) (fun j hj => by cases hj) (by kernel_rfl) (by kernel_rfl) (by simp [Region.wanted]) (fun Z hZ => by
      have hmz2 := HMI.out
      have hne : ¬ T.cs = [] := by intro h; rw [h] at hlz; exact hlz rfl
      have htm : (a : Int).tmod (T.cs.length : Int) = (m : Int) := by rw [Int.tmod_eq_emod_of_nonneg ha0]; exact hmz2
      go_simp) hSd ?_
    try simp only [Act.put, List.getElem_toArray, List.getElem_cons_zero, List.setIfInBounds_toArray, List.set_cons_zero, List.set_cons_succ]
    refine wpAnyT_takeB (i := 9) (.pointer (some ⟨b0, o0 + m * 3, none⟩)) rfl (by kernel_rfl) (fun j hj => by cases hj) (by kernel_rfl) (by kernel_rfl) (by simp [Region.wanted]) (fun Z hZ => by
      go_simp) hSd ?_
    try simp only [Act.put, List.getElem_toArray, List.getElem_cons_zero, List.setIfInBounds_toArray, List.set_cons_zero, List.set_cons_succ]
    refine wpAnyT_takeB (i := 10) (.agg #[.slice q0 cx.inp.length k0, .slice q1 cx.out.length k1, .slice q2 cx.calm.length k2]) rfl (by kernel_rfl) (fun j hj => by cases hj) (by kernel_rfl) (by kernel_rfl) (by simp [Region.wanted]) (fun Z hZ => by
      have x0 := HC.out.c0 _ (HE8.out.trans hZ)
      have x1 := HC.out.c1 _ (HE8.out.trans hZ)
      have x2 := HC.out.c2 _ (HE8.out.trans hZ)
      go_simp) hSd ?_
    try simp only [Act.put, List.getElem_toArray, List.getElem_cons_zero, List.setIfInBounds_toArray, List.set_cons_zero, List.set_cons_succ]
    refine wpAnyT_oneB (i := 11) rfl (by kernel_rfl) (fun KK hKK => ?_)
    go_wp2_with fail
    refine ⟨rfl, hKK _ _ (fun _ => hSd.alloc _) ?_⟩
    clear hKK KK
    try simp only [Act.put, List.getElem_toArray, List.getElem_cons_zero, List.setIfInBounds_toArray, List.set_cons_zero, List.set_cons_succ]
    refine wpAnyT_oneB (i := 12) rfl (by kernel_rfl) (fun KK hKK => ?_)
    go_wp2_with fail
    refine ⟨rfl, hKK _ _ (fun _ => hSd.alloc _) ?_⟩
    clear hKK KK
    refine wpAnyT_done (by kernel_rfl) ?_ _
    have HC9 : Hid (CBox (Z8.alloc (.cells #[.slice q0 cx.inp.length k0, .slice q1 cx.out.length k1, .slice q2 cx.calm.length k2] 53)) Z8.heap.size (.slice q0 cx.inp.length k0) (.slice q1 cx.out.length k1) (.slice q2 cx.calm.length k2)) := heap_alloc_new Z8 _
    have HE9 : Hid (Ext w8 (Z8.alloc (.cells #[.slice q0 cx.inp.length k0, .slice q1 cx.out.length k1, .slice q2 cx.calm.length k2] 53))) := hSd.alloc _
    generalize Z8.alloc (.cells #[.slice q0 cx.inp.length k0, .slice q1 cx.out.length k1, .slice q2 cx.calm.length k2] 53) = Z9 at HC9 HE9 ⊢
    generalize Z8.heap.size = bx at HC9 ⊢
    clear hSd
    have HS9 := hide (HS8.out.ext HE9.out)
    have HT9 := hide (HT8.out.ext HE9.out)
    have HP9 := hide ((HE9.out.b.block _ (lt_of_heap HP8.out)).trans HP8.out)
    have HE9 := hide (HE8.out.trans HE9.out)
    have HCR := hide HC.out.r0
    clear HS8 HT8 HP8 HE8 HC HBZ HMI HA hlz hlz0 hmz ha0 ha1
    obtain ⟨N, hN⟩ : ∃ N : Nat, S.n = N := ⟨S.n.toNat, by have := (tk_ok HS0.out).n1; omega⟩
    obtain ⟨K, hK⟩ : ∃ K : Nat, min S.outs T.outs = K := ⟨(min S.outs T.outs).toNat, by have := (tk_ok HS0.out).o1; have := (tk_ok HT0.out).o1; omega⟩
    have hN1 : 1 ≤ N := by have := (tk_ok HS0.out).n1; omega
    have hN3 : N ≤ 3 := by have := HN3.out; omega
    have hK1 : 1 ≤ K := by have := (tk_ok HS0.out).o1; have := (tk_ok HT0.out).o1; omega
    have hK8 : K ≤ 8 := by have := (tk_ok HS0.out).o8; omega
    have HMAY : Hid (∀ (f : Nat) (o : List Int), f < 2 ^ N → o.length = N → (∀ x ∈ o, 0 ≤ x ∧ x < K) → (permS S i f o).2 = 0 ∧ (permS T m f o).2 = 0 ∧ ((permS S i f o).1 = true → (permS T m f o).1 = true)) := fun f o h1 h2 h3 =>
      HMAY0.out f o (by rw [hN]; exact h1) (by omega) (fun x hx => ⟨(h3 x hx).1, by have := (h3 x hx).2; omega, by have := (h3 x hx).2; omega⟩)
    have HKK := hide hK
    have HNV := hide hN
    clear HMAY0 hK hN
    obtain ⟨s0, s1, s2, s3⟩ := HS9.out.cells
    have sz := lt_of_heap HS9.out
    obtain ⟨x0, x1, x2, -, -, xz⟩ := HC9.out.cells
    have hfd := find_any S cx.inp _ _ Z9 (HV.out.ext HE9.out) (HCR.out.ext HE9.out)
    rw [HFS.out] at hfd
    go_wp2_with fail
    refine hfd.mono ?_
    clear hfd
    rintro e w10 ⟨rfl, hE10⟩
    have HS10 := hide (HS9.out.ext hE10)
    have HT10 := hide (HT9.out.ext hE10)
    have HP10 := hide ((hE10.b.block _ (lt_of_heap HP9.out)).trans HP9.out)
    have HC10 := hide (HC9.out.ext hE10)
    have HE10 := hide (HE9.out.trans hE10)
    clear hE10 HS9 HT9 HP9 HC9 HE9 s0 s1 s2 s3 sz x0 x1 x2 xz
    obtain ⟨s0, s1, s2, s3⟩ := HT10.out.cells
    have sz := lt_of_heap HT10.out
    obtain ⟨x0, x1, x2, -, -, xz⟩ := HC10.out.cells
    have hfd := find_any T cx.inp _ _ w10 (HU.out.ext HE10.out) (HCR.out.ext HE10.out)
    rw [HFT.out] at hfd
    go_wp2_with fail
    refine hfd.mono ?_
    clear hfd
    rintro e w11 ⟨rfl, hE11⟩
    have HS11 := hide (HS10.out.ext hE11)
    have HT11 := hide (HT10.out.ext hE11)
    have HP11 := hide ((hE11.b.block _ (lt_of_heap HP10.out)).trans HP10.out)
    have HE11 := hide (HE10.out.trans hE11)
    clear hE11 HS10 HT10 HP10 HC10 HE10 s0 s1 s2 s3 sz x0 x1 x2 xz
    obtain ⟨s0, s1, s2, s3⟩ := HS11.out.cells
    have sz := lt_of_heap HS11.out
    rw [HNV.out] at s0
    have hN64 : (N : Int) < 64 := by omega
    go_wp2_with fail
    obtain ⟨M, hM⟩ : ∃ M : Nat, 2 ^ N = M := ⟨_, rfl⟩
    have hM8 : M ≤ 8 := by
      obtain rfl | rfl | rfl : N = 1 ∨ N = 2 ∨ N = 3 := by omega
      all_goals (rw [← hM]; decide)
    rw [show wrap64 ((2 : Int) ^ N) = (M : Int) by
      rw [← hM]
      obtain rfl | rfl | rfl : N = 1 ∨ N = 2 ∨ N = 3 := by omega
      all_goals decide +kernel]
    rw [hM] at HMAY
    have hmk := fun W => make_ints (P := Tryd.prog) 43 3 Tryd.underlying43 int_info N (by omega) W
    have hz5 : w11.heap.size ≤ w11.heap.size := Nat.le_refl _
    clear s0 s1 s2 s3 sz hN64 hM
    go_loopw [180] (fun x W => ∃ f : Nat, f ≤ M ∧ x = .int .i64 f ∧ Hid (Ext w11 W)) (fun x _ => M - (intOf x).toNat)
    case atStart => exact ⟨0, by omega, rfl, Ext.refl _⟩
    case round =>
      obtain ⟨f, hf, rfl, HE12⟩ := hrel
      by_cases hfl : f < M
      case neg =>
        obtain rfl : f = M := by omega
        go_wp2_with fail
        go_ret
        exact ⟨rfl, HE11.out.trans HE12.out⟩
      case pos =>
      have HS12 := hide (HS11.out.ext HE12.out)
      have HT12 := hide (HT11.out.ext HE12.out)
      have HP12 := hide ((HE12.out.b.block _ (lt_of_heap HP11.out)).trans HP11.out)
      have HEO := hide HE12.out
      have HE12 := hide (HE11.out.trans HE12.out)
      obtain ⟨s0, s1, s2, s3⟩ := HS12.out.cells
      have sz := lt_of_heap HS12.out
      have p0 := decl_cells HP12.out 0
      have p1' := decl_cells HP12.out 1
      have pz := lt_of_heap HP12.out
      rw [HNV.out] at s0
      go_wp2_with fail
      obtain ⟨wo, hwo⟩ : ∃ wo : World, wo = wr := ⟨_, rfl⟩
      rw [← hwo] at HE12 HEO HS12 HT12 s0 s1 s2 s3 sz p0 p1' pz HP12 ⊢
      clear hwo
      have hR : Hid (Nums (wo.alloc (.cells (vals (List.replicate N 0)) 3)) wo.heap.size (List.replicate N 0)) := by show Nums _ _ _; exact heap_alloc_new wo _
      have HEA := hide ((Ext.refl wo).alloc (.cells (vals (List.replicate N 0)) 3))
      have hsz : w.heap.size ≤ wo.heap.size := HE12.out.size
      obtain ⟨g, hg⟩ : ∃ g, wo.heap.size = g := ⟨_, rfl⟩
      obtain ⟨wx, hwx⟩ : ∃ wx, wo.alloc (.cells (vals (List.replicate N 0)) 3) = wx := ⟨_, rfl⟩
      rw [hg, hwx] at hR
      rw [hwx] at HEA
      rw [hg, hwx]
      have HG := hide hg
      clear hg hwx s0 s1 s2 s3 sz p0 p1' pz
      go_loopw [27, 191] (fun y x V => ∃ (k r : Nat) (l : List Int), k ≤ N ∧ x = .int .i64 k ∧ y = .int .i64 r ∧ r ≤ 255 ∧ l.length = N ∧ Hid (∀ x ∈ l, 0 ≤ x ∧ x < K) ∧ Hid (Nums V g l) ∧ Hid (Ext wo V)) (fun _ x _ => N - (intOf x).toNat)
      case atStart => exact ⟨0, b, List.replicate N 0, by omega, rfl, rfl, by omega, by simp, fun x hx => by rw [List.eq_of_mem_replicate hx]; omega, hR, HEA⟩
      case round =>
        obtain ⟨k, r, l, hk, rfl, rfl, hr, hl, HB, HN, HEW⟩ := hrel
        have HSV := hide (HS12.out.ext HEW.out)
        have HTV := hide (HT12.out.ext HEW.out)
        by_cases hkl : k < N
        case neg =>
          obtain rfl : k = N := by omega
          obtain ⟨s0, s1, s2, s3⟩ := HSV.out.cells
          have sz := lt_of_heap HSV.out
          have hrow := HN.out.row (by omega)
          rw [hl] at hrow
          have HROW := hide hrow
          obtain ⟨hp1, hp2, hp3⟩ := HMAY.out f l hfl hl HB.out
          have HP2 := hide hp2
          have HP3 := hide hp3
          have HEO2 := hide (HEO.out.trans HEW.out)
          have HEW := hide (HE12.out.trans HEW.out)
          have hpm := permitted_any S i f l _ _ wr (HV.out.ext HEW.out) HROW.out
          rw [hp1] at hpm
          clear hp1 hp2 hp3 hrow
          go_wp2_with fail
          refine hpm.mono ?_
          clear hpm
          rintro e w13 ⟨rfl, hE13⟩
          have HTW := hide (HTV.out.ext hE13)
          have HE13 := hide (HEW.out.trans hE13)
          have HROW := hide (HROW.out.ext hE13)
          have HEO2 := hide (HEO2.out.trans hE13)
          clear hE13 s0 s1 s2 s3 sz
          obtain ⟨t0, t1, t2, t3⟩ := HTW.out.cells
          have tz := lt_of_heap HTW.out
          have hpm := permitted_any T m f l _ _ w13 (HU.out.ext HE13.out) HROW.out
          rw [HP2.out] at hpm
          clear HP2
          generalize (permS S i f l).1 = m1 at HP3 ⊢
          generalize (permS T m f l).1 = m2 at HP3 hpm
          go_wp2_with fail
          refine hpm.mono ?_
          clear hpm
          rintro e w14 ⟨rfl, hE14⟩
          have HEO2 := hide (HEO2.out.trans hE14)
          clear hE14 t0 t1 t2 t3 tz
          cases m1 with
          | false =>
            go_wp2_with fail
            go_roundw
            case rel => exact ⟨f + 1, by omega, by go_num, HEO2⟩
            case measure => simp [intOf]; omega
          | true =>
            obtain rfl := HP3.out rfl
            go_wp2_with fail
            go_roundw
            case rel => exact ⟨f + 1, by omega, by go_num, HEO2⟩
            case measure => simp [intOf]; omega
        case pos =>
          obtain ⟨s0, s1, s2, s3⟩ := HSV.out.cells
          have sz := lt_of_heap HSV.out
          obtain ⟨t0, t1, t2, t3⟩ := HTV.out.cells
          have tz := lt_of_heap HTV.out
          have hfz : wr.frozen? ⟨g, k, none⟩ = false := frozen_of HN.out
          have hbb := lt_of_heap HN.out
          have hkl2 := hkl
          rw [← hl] at hkl2
          have hcv := HN.out.at_ (j := k) hkl2
          have hmn : min S.outs T.outs = (K : Int) := HKK.out
          have hk0 : (K : Int) ≠ 0 := by omega
          have hr0 : (0 : Int) ≤ (r : Int) := by omega
          have hgz : wo.heap.size ≤ g := by rw [← HG.out]; omega
          have HSET := hide (HN.out.set k ((r : Int) % (K : Int)))
          have hEX := HEW.out.setCell (p := ⟨g, k, none⟩) hgz (.int .i64 ((r : Int) % (K : Int)))
          obtain ⟨-, -, q2, -⟩ := (HS12.out.ext hEX).cells
          obtain ⟨-, -, r2, -⟩ := (HT12.out.ext hEX).cells
          have HEX := hide hEX
          have hq0 : 0 ≤ (r : Int) / (K : Int) := Int.ediv_nonneg hr0 (by omega)
          have hq1 : (r : Int) / (K : Int) ≤ 255 := by have := Int.ediv_le_self (K : Int) hr0; omega
          have HB2 : Hid (∀ x ∈ l.set k ((r : Int) % (K : Int)), 0 ≤ x ∧ x < K) := fun x hx => by
            rcases List.mem_or_eq_of_mem_set hx with h | rfl
            · exact HB.out x h
            · exact ⟨Int.emod_nonneg _ hk0, Int.emod_lt_of_pos _ (by omega)⟩
          have hor : (T.outs < S.outs ∧ T.outs = K) ∨ (S.outs ≤ T.outs ∧ S.outs = K) := by omega
          clear hEX hmn
          rcases hor with ⟨h1, h2⟩ | ⟨h1, h2⟩
          · rw [h2] at h1 t2 r2
            clear h2
            go_wp2_with fail
            go_roundw
            case rel => exact ⟨k + 1, r / K, _, by omega, by go_num, by rw [Int.natCast_ediv], Nat.le_trans (Nat.div_le_self _ _) hr, by rw [List.length_set]; exact hl, HB2, HSET, HEX⟩
            case measure => simp [intOf]; omega
          · rw [h2] at h1 s2 q2
            clear h2
            go_wp2_with fail
            go_roundw
            case rel => exact ⟨k + 1, r / K, _, by omega, by go_num, by rw [Int.natCast_ediv], Nat.le_trans (Nat.div_le_self _ _) hr, by rw [List.length_set]; exact hl, HB2, HSET, HEX⟩
            case measure => simp [intOf]; omega
end Go.Proofs.YtdgapihlgddnjaaDoor
