/-
  The law FailureRenames: the walk.
  Conditions: none.
-/
import Derived.Test.YtdlhnpogddpmpaaGreatChsLaw
import Derived.Test.YtdlhnpogddpmpaaGreatRdPrmA
namespace Go.Proofs.YtdlhnpogddpmpaaGreat
open Go.RowKit
attribute [local go_sem] Oper.semAt_some

/-! ### Plain -/
theorem ren_of {a : List Int} (h : PermOk a) : Ren a.length (piN a) where
  lt := fun _q hq => (h.nat hq).2
  inj := fun _p _q hp hq e => h.inj' hp hq e
  sur := fun q hq => ⟨bkN a q, (pi_bk h hq).2, (pi_bk h hq).1⟩
theorem img_pi {a : List Int} (h : PermOk a) {s q : Nat} (hq : q < a.length) : (imgN a s a.length).testBit (piN a q) = s.testBit q := by
  rw [Bool.eq_iff_iff, img_bit]
  constructor
  · rintro ⟨k, h1, h2, h3⟩
    have : k = q := h.inj' h1 hq h3
    subst this; exact h2
  · intro h1; exact ⟨q, hq, h1, rfl⟩
theorem renP_perm {a : List Int} {r : Rd} (h : PermOk a) (hr : RdN a.length r) : RenP a.length (piN a) r (permR r a) := by
  refine ⟨fun q hq => ?_, fun p q hp hq => ?_⟩
  · show bit ((imgN a r.f.toNat a.length : Nat) : Int).toNat (piN a q) = _
    rw [Int.toNat_natCast]
    exact img_pi h hq
  · have := perm_bit hr.wf h hp hq
    unfold hb bit
    rw [show (permR r a).g = permG r.g a from rfl, (perm_wf hr.wf h).row, hr.wf.row]
    exact this
theorem permR_rdN {a : List Int} {r : Rd} (h : PermOk a) (hr : RdN a.length r) : RdN a.length (permR r a) := by
  refine ⟨perm_wf hr.wf h, imgN a r.f.toNat a.length, rfl, imgN_lt h _ _ (Nat.le_refl _)⟩
theorem rdN_chk {n : Nat} {r : Rd} (hr : RdN n r) : rchk r = 0 ∧ r.g.n = n := by
  obtain ⟨o, ho, ho2⟩ := hr.f
  refine ⟨?_, hr.wf.n_eq⟩
  unfold rchk
  rw [if_pos (wf_chk hr.wf), hr.wf.n_eq, ho]
  exact pchk_okN hr.wf.n1 hr.wf.n5 ho2
/-- The renamed word. -/
def renW (l : List Rd) (a : List Int) : List Rd := l.map fun r => permR r a
theorem renW_take {l : List Rd} {a : List Int} {i : Nat} (h : i < l.length) : renW (l.take (i + 1)) a = renW (l.take i) a ++ [permR (l.getD i default) a] := by
  unfold renW
  rw [List.take_succ_eq_append_getElem h, List.map_append, List.getD_eq_getElem?_getD, List.getElem?_eq_getElem h]; rfl
theorem renW_ren {a : List Int} (h : PermOk a) : ∀ {l : List Rd}, (∀ r ∈ l, RdN a.length r) → RenW a.length (piN a) l (renW l a) ∧ ∀ r ∈ renW l a, RdN a.length r
  | [], _ => ⟨.nil, fun _ h => nomatch h⟩
  | r :: l, hl => by
    have ih := renW_ren h (l := l) fun x hx => hl x (List.mem_cons_of_mem _ hx)
    have hr := hl r (List.mem_cons_self ..)
    refine ⟨.cons (renP_perm h hr) ih.1, fun x hx => ?_⟩
    rcases List.mem_cons.1 hx with rfl | hx
    · exact permR_rdN h hr
    · exact ih.2 x hx
/-- What the law knows of a word that it renames. -/
theorem renames_plain {k N : Nat} {A B : Adv} (CH : ChsR k N A B) {l : List Rd} {a : List Int} (hs : smallB l = true) (hg : (l.getD 0 default).g.n = A.n) (hp : permE a = 0) (hlen : (a.length : Int) = A.n) :
    (∀ i, i < l.length → rpermS (l.getD i default) a = (permR (l.getD i default) a, 0)) ∧ ∃ b : Bool, allowsS A l = (b, 0) ∧ allowsS A (renW l a) = (b, 0) := by
  have hN : a.length = N := by have := CH.sz; omega
  subst hN
  have hPO : PermOk a := permE_ok hp
  have hl := small_rdN hs (by rw [hg]; exact CH.sz)
  refine ⟨fun i hi => ?_, _, allows_dec CH.ca Iff.rfl, ?_⟩
  · have hm : l.getD i default ∈ l := by rw [List.getD_eq_getElem?_getD, List.getElem?_eq_getElem hi]; exact List.getElem_mem hi
    obtain ⟨h1, h2⟩ := rdN_chk (hl _ hm)
    exact rpermS_0 h1 hp (by rw [h2])
  · obtain ⟨h1, h2⟩ := renW_ren hPO hl
    exact allows_dec CH.ca (CH.ren _ _ _ (ren_of hPO) h1 hl h2)
set_option maxRecDepth 16000 in
set_option maxHeartbeats 4000000 in
theorem failureRenames_law (k : Nat) (ua : Value) (a : List Int) (u : Value) (l : List Rd) (w : World) (hk : k < 256) (ha : Row icells 1 w ua a) (hl : Row Rd.cells 7 w u l) : Calls Tryz.prog 6 #[.int .u8 k, ua, u] w fun e w' => e = .returned (.bool true) ∧ Ext w w' := by
  obtain ⟨N, A, B, CH⟩ := chosen_ok k hk
  have C1 := hide CH.call
  have HS := hide (fun W (hE : Ext w W) => small_any l u W (hl.ext hE))
  have HPC := hide (fun W (hE : Ext w W) => rpmcheck_any a ua W (ha.ext hE))
  have HA := hide (fun W => awake17_any W)
  have HP := hide (fun r W (hE : Ext w W) => rdpermute_any r a ua W (ha.ext hE))
  have HK := hide (fun hs hg hp hlen => renames_plain CH (l := l) (a := a) hs hg hp hlen)
  have P1 := hide (fun W (v : Value) (hE : Ext w W) (hA : AdvRep W v A) => pallows_any A v u l W hA (hl.ext hE) (by have := CH.ma; omega))
  have P2 := hide (fun W (v v' : Value) (hA : AdvRep W v A) (h : Row Rd.cells 7 W v' (renW l a)) => pallows_any A v v' (renW l a) W hA h (by have := CH.ma; omega))
  clear CH
  obtain ⟨p, c, rfl, hc, hlen, hat⟩ := hl.rd_all
  obtain ⟨pa, ca, rfl, hca, hlena, -⟩ := ha.int_all
  have HAT := hide hat
  have HLEN := hide hlen
  clear hat hlen hc hl hca hlena ha
  go_enter Tryz.func6, Tryz.ntmps6
  go_wp2_with fail
  refine (C1.out _).mono ?_
  rintro e w1 ⟨q1, c1, q2, c2, rfl, R1, R2, E1⟩
  replace R1 := hide R1
  have X1 : Hid (Ext w w1) := by first | exact E1 | exact ((Ext.refl w).alloc _).trans E1
  clear E1 R2
  go_wp2_with fail
  obtain ⟨w2, hw2⟩ : ∃ w2, (w1.alloc (.cells #[.int .i64 A.n, .slice q1 A.st.length c1] 26)).alloc (.cells #[.int .i64 B.n, .slice q2 B.st.length c2] 26) = w2 := ⟨_, rfl⟩
  have X2 : Hid (Ext w w2) := by show Ext _ _; rw [← hw2]; exact (X1.out.alloc _).alloc _
  have B1 : Hid (AB w2 w1.heap.size q1 c1 A) := by show AB _ _ _ _ _; rw [← hw2]; exact (AB.new R1.out).ext ((Ext.refl _).alloc _)
  rw [hw2]
  clear hw2 R1
  generalize w1.heap.size = b1 at B1 ⊢
  obtain ⟨d0, d1, dz⟩ := B1.out.cells
  cases hsm : smallB l with
  | false =>
    rw [hsm] at HS
    clear hsm
    refine wp_region_ext (by kernel_rfl) (by kernel_rfl) ?_
    repeat (go_big_quiet_step (first | (go_at_call 16; exact Calls.ext_of (HS.out _ (X2.out.trans (ExtOf.h _)))) | (go_at_call 21; exact Calls.ext_of (HPC.out _ (X2.out.trans (ExtOf.h _))))))
    refine wpQuiet_nil ?_
    rintro w3 ⟨⟨_, E3⟩, rfl⟩
    have X3 := hide (X2.out.trans E3)
    clear E3 d0 d1 dz
    go_wp2_with fail
    refine (HA.out _).mono ?_
    rintro e w4 ⟨rfl, E4⟩
    go_wp2_with fail
    go_ret
    exact ⟨rfl, X3.out.trans E4⟩
  | true =>
  rw [hsm] at HS
  have hpos : 0 < l.length := by
    unfold smallB at hsm
    simp only [Bool.and_eq_true, decide_eq_true_eq] at hsm
    exact hsm.2.1
  have hl3 : l.length ≤ 3 := by
    unfold smallB at hsm
    simp only [Bool.and_eq_true, decide_eq_true_eq] at hsm
    exact hsm.1
  have HSM := hide hsm
  clear hsm
  obtain ⟨rb, ro, rfl, hrb, hrat⟩ := HAT.out hpos
  obtain ⟨x0, -, -, -, -, -, -⟩ := hrat 0 hpos
  replace x0 := x0 w2 X2.out
  rw [Nat.zero_mul, Nat.add_zero] at x0
  have hzb : rb < w2.heap.size := Nat.lt_of_lt_of_le hrb X2.out.size
  have hposI : (0 : Int) < l.length := by omega
  clear hrat
  by_cases hg : (l.getD 0 default).g.n = A.n
  case neg =>
    have hgb : ((l.getD 0 default).g.n != A.n) = true := by simpa using hg
    generalize (l.getD 0 default).g.n = gn at x0 hgb
    clear hg
    refine wp_region_ext (by kernel_rfl) (by kernel_rfl) ?_
    repeat (go_big_quiet_step (first | (go_at_call 16; exact Calls.ext_of (HS.out _ (X2.out.trans (ExtOf.h _)))) | (go_at_call 21; exact Calls.ext_of (HPC.out _ (X2.out.trans (ExtOf.h _))))))
    refine wpQuiet_nil ?_
    rintro w3 ⟨⟨_, E3⟩, rfl⟩
    have X3 := hide (X2.out.trans E3)
    clear x0 hzb
    clear E3 d0 d1 dz
    go_wp2_with fail
    refine (HA.out _).mono ?_
    rintro e w4 ⟨rfl, E4⟩
    go_wp2_with fail
    go_ret
    exact ⟨rfl, X3.out.trans E4⟩
  case pos =>
  have hgb : ((l.getD 0 default).g.n != A.n) = false := by simpa using hg
  have HG := hide hg
  clear hg
  by_cases hpe : permE a = 0
  case neg =>
    have hpb : (permE a != 0) = true := by simpa using hpe
    generalize permE a = pe at HPC hpb
    generalize (l.getD 0 default).g.n = gn at x0 hgb
    clear hpe
    refine wp_region_ext (by kernel_rfl) (by kernel_rfl) ?_
    repeat (go_big_quiet_step (first | (go_at_call 16; exact Calls.ext_of (HS.out _ (X2.out.trans (ExtOf.h _)))) | (go_at_call 21; exact Calls.ext_of (HPC.out _ (X2.out.trans (ExtOf.h _))))))
    refine wpQuiet_nil ?_
    rintro w3 ⟨⟨_, E3⟩, rfl⟩
    have X3 := hide (X2.out.trans E3)
    clear x0 hzb
    clear E3 d0 d1 dz
    go_wp2_with fail
    refine (HA.out _).mono ?_
    rintro e w4 ⟨rfl, E4⟩
    go_wp2_with fail
    go_ret
    exact ⟨rfl, X3.out.trans E4⟩
  case pos =>
  rw [hpe] at HPC
  have HPE := hide hpe
  clear hpe
  by_cases hla : (a.length : Int) = A.n
  case neg =>
    have hlb : ((a.length : Int) != A.n) = true := by simpa using hla
    generalize (l.getD 0 default).g.n = gn at x0 hgb
    clear hla
    refine wp_region_ext (by kernel_rfl) (by kernel_rfl) ?_
    repeat (go_big_quiet_step (first | (go_at_call 16; exact Calls.ext_of (HS.out _ (X2.out.trans (ExtOf.h _)))) | (go_at_call 21; exact Calls.ext_of (HPC.out _ (X2.out.trans (ExtOf.h _))))))
    refine wpQuiet_nil ?_
    rintro w3 ⟨⟨_, E3⟩, rfl⟩
    have X3 := hide (X2.out.trans E3)
    clear x0 hzb
    clear E3 d0 d1 dz
    go_wp2_with fail
    refine (HA.out _).mono ?_
    rintro e w4 ⟨rfl, E4⟩
    go_wp2_with fail
    go_ret
    exact ⟨rfl, X3.out.trans E4⟩
  case pos =>
  obtain ⟨hok, b, ha1, ha2⟩ := HK.out HSM.out HG.out HPE.out hla
  have hlb : ((a.length : Int) != A.n) = false := by simpa using hla
  generalize (l.getD 0 default).g.n = gn at x0 hgb
  rw [ha1] at P1
  rw [ha2] at P2
  have HOK := hide hok
  clear hla hok ha1 ha2 HK
  refine wp_region_ext (by kernel_rfl) (by kernel_rfl) ?_
  repeat (go_big_quiet_step (first | (go_at_call 16; exact Calls.ext_of (HS.out _ (X2.out.trans (ExtOf.h _)))) | (go_at_call 21; exact Calls.ext_of (HPC.out _ (X2.out.trans (ExtOf.h _))))))
  refine wpQuiet_nil ?_
  rintro w3 ⟨⟨_, E3⟩, rfl⟩
  have X3 := hide (X2.out.trans E3)
  clear x0 hzb d0 d1 dz hgb hlb
  have B1 := hide (B1.out.ext E3)
  clear E3 HS HPC
  have HRT := hide (fun i (hi : i < l.length) => renW_take (a := a) hi)
  have HR0 : Hid (renW (l.take 0) a = []) := by show _ = _; rw [List.take_zero]; rfl
  have HRN : Hid (renW (l.take l.length) a = renW l a) := by show _ = _; rw [List.take_length]
  have HLN := hide (fun i (hi : i ≤ l.length) => (show (renW (l.take i) a).length = i by unfold renW; rw [List.length_map, List.length_take]; omega))
  generalize renW l a = res at HRN P2
  generalize hrt : (fun i => renW (l.take i) a) = rt
  have HRT2 : Hid (∀ i, i < l.length → rt (i + 1) = rt i ++ [permR (l.getD i default) a]) := by rw [← hrt]; exact HRT.out
  have HR02 : Hid (rt 0 = []) := by rw [← hrt]; exact HR0.out
  have HRN2 : Hid (rt l.length = res) := by rw [← hrt]; exact HRN.out
  have HLN2 : Hid (∀ i, i ≤ l.length → (rt i).length = i) := by rw [← hrt]; exact HLN.out
  clear hrt HRT HR0 HRN HLN
  go_wp2_with fail
  have HE : Hid (Ext w3 w3) := Ext.refl w3
  have HO : Hid (Own Rd.cells 7 w3 w3.heap.size 39 (.slice none 0 0) (rt 0)) := by show Own _ _ _ _ _ _ _; rw [HR02.out]; exact Own.nil _ _ _ (fun _ => rfl)
  go_loopw [10, 12, 13, 14, 55] (fun u _ _ _ x V => ∃ i : Nat, i ≤ l.length ∧ x = .int .i64 i ∧ Hid (Ext w3 V) ∧ Hid (Own Rd.cells 7 V w3.heap.size 39 u (rt i))) (fun _ _ _ _ x _ => l.length - (intOf x).toNat)
  case atStart => exact ⟨0, by omega, rfl, HE, HO⟩
  case round =>
    clear HE HO
    obtain ⟨i, hi, rfl, HE, HO⟩ := hrel
    by_cases hlt : i < l.length
    · obtain ⟨b', o', hbo, hb, hat⟩ := HAT.out (by omega)
      have hx := hat i hlt
      have HRZ := hide hb
      injection hbo with hbo
      injection hbo with hb1 hb2
      subst hb1 hb2
      have HC2 : Hid (∀ W, Ext w W → Calls Tryz.prog 22 #[(l.getD i default).v, .slice pa a.length ca] W (RetR (permR (l.getD i default) a, 0) W)) := fun W hE => HOK.out i hlt ▸ HP.out (l.getD i default) W hE
      have HSS := hide (HRT2.out i hlt)
      have HTI := hide (HLN2.out i (by omega))
      generalize permR (l.getD i default) a = q at HC2 HSS
      generalize l.getD i default = r at hx HC2
      obtain ⟨x0, x1, x2, x3, x4, x5, x6⟩ := hx
      have HXE := hide (X3.out.trans HE.out)
      replace x0 := x0 _ HXE.out
      replace x1 := x1 _ HXE.out
      replace x2 := x2 _ HXE.out
      replace x3 := x3 _ HXE.out
      replace x4 := x4 _ HXE.out
      replace x5 := x5 _ HXE.out
      replace x6 := x6 _ HXE.out
      have hb := Nat.lt_of_lt_of_le HRZ.out HXE.out.size
      obtain ⟨su, sc, rfl⟩ := HO.out.sl
      rw [HTI.out]
      clear hat
      go_upto_region 10 with fail
      clear x0 x1 x2 x3 x4 x5 x6 hb
      have HE := hide (HE.out.alloc (robj r))
      have HXE := hide (HXE.out.alloc (robj r))
      have HO : Hid (Own Rd.cells 7 (wr.alloc (robj r)) w3.heap.size 39 (.slice su i sc) (rt i)) := by have := HO.out.alloc (robj r); rwa [HTI.out] at this
      have HB8 : Hid (RdBox (wr.alloc (robj r)) wr.heap.size r) := rd_new wr r
      change Code.wp _ _ _ _ (wr.alloc (robj r))
      generalize wr.alloc (robj r) = W3 at HE HO HB8 HXE ⊢
      generalize wr.heap.size = b8 at HB8 ⊢
      obtain ⟨c0, c1, c2, c3, c4, c5, c6, cz⟩ := HB8.out.cells
      go_wp2_with fail
      clear c0 c1 c2 c3 c4 c5 c6 cz
      refine (HC2.out _ HXE.out).mono ?_
      rintro e w4 ⟨rfl, hE⟩
      have HE := hide (HE.out.trans hE)
      have HO := hide (HO.out.ext hE)
      clear hE HB8 HXE
      go_upto_region 13 with fail
      have HE := hide (HE.out.alloc (robj q))
      have HO := hide (HO.out.alloc (robj q))
      have HB9 : Hid (RdBox (w4.alloc (robj q)) w4.heap.size q) := rd_new w4 q
      change Code.wp _ _ _ _ (w4.alloc (robj q))
      generalize w4.alloc (robj q) = W5 at HE HO HB9 ⊢
      generalize w4.heap.size = b9 at HB9 ⊢
      obtain ⟨c0, c1, c2, c3, c4, c5, c6, cz⟩ := HB9.out.cells
      go_wp2_with (at_builtin; refine wpList_append1 rfl (.tmp 67) (.tmp 69) 33 rfl w3.heap.size 39 (Rd.v default) 7 56 Tryz.underlying33 rd_info rfl (by decide) _ (rt i) q W5.heap.size rfl (HO.out.alloc _) rfl (rd_new_cells _ _) (rd_ones q) (by have := HTI.out; omega) (by decide) (by simp only [World.size_alloc]; have := HE.out.size; omega) ?_; intro v' W6 hown' hg6 hf6; obtain ⟨g7, c7, rfl, -⟩ := hf6)
      have hge := HO.out.block_ge
      have HE6 : Hid (Ext w3 W6) := (HE.out.alloc _).grown hg6 (fun k hk => by have := hge k hk; omega)
      rw [← HSS.out] at hown'
      have HFIN := hide hown'
      clear hge hown' hg6 HSS HTI c0 c1 c2 c3 c4 c5 c6 cz
      go_wp2_with fail
      go_roundw
      case rel => exact ⟨i + 1, by omega, by go_num, HE6, HFIN⟩
      case measure => simp [intOf]; omega
    · obtain rfl : i = l.length := by omega
      rw [HRN2.out] at HO
      have HXE := hide (X3.out.trans HE.out)
      have B1 := hide (B1.out.ext HE.out)
      have hrl : res.length = l.length := by rw [← HRN2.out]; exact HLN2.out _ (Nat.le_refl _)
      obtain ⟨su, sc, rfl⟩ := HO.out.sl
      have HR := hide (HO.out.row (by omega))
      clear HE HO hrl
      obtain ⟨d0, d1, dz⟩ := B1.out.cells
      go_wp2_with fail
      refine (P1.out _ _ HXE.out B1.out.rep).mono ?_
      rintro e w4 ⟨rfl, E4⟩
      have X4 := hide (HXE.out.trans E4)
      have B1 := hide (B1.out.ext E4)
      have HR := hide (HR.out.ext E4)
      clear E4 d0 d1 dz
      obtain ⟨d0, d1, dz⟩ := B1.out.cells
      go_wp2_with fail
      refine (P2.out _ _ _ B1.out.rep HR.out).mono ?_
      rintro e w5 ⟨rfl, E5⟩
      have X5 := hide (X4.out.trans E5)
      clear E5 d0 d1 dz
      cases b
      all_goals
        go_wp2_with fail
        refine (HA.out _).mono ?_
        rintro e w6 ⟨rfl, E6⟩
        go_wp2_with fail
        go_ret
        exact ⟨rfl, X5.out.trans E6⟩
end Go.Proofs.YtdlhnpogddpmpaaGreat
