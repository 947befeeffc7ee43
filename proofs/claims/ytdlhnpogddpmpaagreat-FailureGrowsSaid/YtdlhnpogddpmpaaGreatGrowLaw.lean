/-
  The law FailureGrows: the walk.
  Conditions: none.
-/
import Derived.Test.YtdlhnpogddpmpaaGreatChsLaw
import Derived.Test.YtdlhnpogddpmpaaGreatTrimP
namespace Go.Proofs.YtdlhnpogddpmpaaGreat
open Go.RowKit
attribute [local go_sem] Oper.semAt_some

theorem advEq_same (A : Adv) : advEq A A = true := decide_eq_true ⟨rfl, rfl⟩
set_option maxRecDepth 16000 in
set_option maxHeartbeats 4000000 in
theorem failureGrows_law (k : Nat) (u : Value) (l : List Rd) (w : World) (hk : k < 256) (hl : Row Rd.cells 7 w u l) : Calls Tryz.prog 5 #[.int .u8 k, u] w fun e w' => e = .returned (.bool true) ∧ Ext w w' := by
  obtain ⟨N, A, B, CH⟩ := chosen_ok k hk
  have C1 := hide CH.call
  have hTS : trimS A = (A, 0) := by unfold trimS; rw [if_pos CH.ca, CH.trim]
  have C2 := hide (fun W v (hA : AdvRep W v A) => ptrim_any A v W hA (by have := CH.ma; omega))
  rw [hTS] at C2
  have C3 := hide (fun W v (hA : AdvRep W v A) => check_any A v W hA (by have := CH.ma; omega))
  have C4 := hide (fun W v (hB : AdvRep W v B) => check_any B v W hB (by have := CH.mb; omega))
  rw [CH.ca] at C3
  rw [CH.cb] at C4
  have C5 := hide (fun W u v (hA : AdvRep W u A) (hB : AdvRep W v A) => rsame_adv A A u v W hA hB)
  rw [advEq_same] at C5
  have HS := hide (fun W (hE : Ext w W) => small_any l u W (hl.ext hE))
  have HA := hide (fun W => awake17_any W)
  have P1 := hide (fun W (v : Value) (hE : Ext w W) (hA : AdvRep W v A) => pallows_any A v u l W hA (hl.ext hE) (by have := CH.ma; omega))
  have P2 := hide (fun W (v : Value) (hE : Ext w W) (hB : AdvRep W v B) => pallows_any B v u l W hB (hl.ext hE) (by have := CH.mb; omega))
  have K1 : ∃ b : Bool, allowsS A l = (b, 0) ∧ (b = true ↔ 0 ≤ after A 0 l) := ⟨_, allows_dec CH.ca Iff.rfl, decide_eq_true_iff⟩
  have K2 : ∃ b : Bool, allowsS B l = (b, 0) ∧ (b = true ↔ 0 ≤ after B 0 l) := ⟨_, allows_dec CH.cb Iff.rfl, decide_eq_true_iff⟩
  obtain ⟨b1, a1, k1⟩ := K1
  obtain ⟨b2, a2, k2⟩ := K2
  rw [a1] at P1
  rw [a2] at P2
  have J1 : b2 = true ∨ (b2 = false ∧ b1 = false) := by
    cases hb2 : b2 with
    | true => exact .inl rfl
    | false =>
      cases hb1 : b1 with
      | false => exact .inr ⟨rfl, rfl⟩
      | true => rw [k2.2 (CH.more l (k1.1 hb1))] at hb2; cases hb2
  replace J1 := hide J1
  have HLA : Hid (A.st.length ≤ 17592186044416) := by
    show _ ≤ _
    have := (achk_zero CH.ca).2.2.2.1
    show A.L ≤ _
    omega
  have HSZ := hide CH.sz
  clear k1 k2 a1 a2 hTS CH
  obtain ⟨p, c, rfl, hc, hlen, hat⟩ := hl.rd_all
  have HAT := hide hat
  have HLEN := hide hlen
  clear hat hlen hc hl
  go_enter Tryz.func5, Tryz.ntmps5
  go_wp2_with fail
  refine (C1.out _).mono ?_
  rintro e w1 ⟨q1, c1, q2, c2, rfl, R1, R2, E1⟩
  replace R1 := hide R1
  replace R2 := hide R2
  have X1 : Hid (Ext w w1) := by first | exact E1 | exact ((Ext.refl w).alloc _).trans E1
  clear E1
  go_wp2_with fail
  obtain ⟨w2, hw2⟩ : ∃ w2, (w1.alloc (.cells #[.int .i64 A.n, .slice q1 A.st.length c1] 26)).alloc (.cells #[.int .i64 B.n, .slice q2 B.st.length c2] 26) = w2 := ⟨_, rfl⟩
  have X2 : Hid (Ext w w2) := by show Ext _ _; rw [← hw2]; exact (X1.out.alloc _).alloc _
  have B1 : Hid (AB w2 w1.heap.size q1 c1 A) := by show AB _ _ _ _ _; rw [← hw2]; exact (AB.new R1.out).ext ((Ext.refl _).alloc _)
  have B2 : Hid (AB w2 (w1.heap.size + 1) q2 c2 B) := by
    show AB _ _ _ _ _
    rw [← hw2]
    have := AB.new (R2.out.ext ((Ext.refl w1).alloc (.cells #[.int .i64 A.n, .slice q1 A.st.length c1] 26)))
    rwa [World.size_alloc] at this
  rw [hw2]
  clear hw2 R1 R2
  obtain ⟨d0, d1, dz⟩ := B1.out.cells
  refine (C2.out _ _ B1.out.rep).mono ?_
  rintro e w3 ⟨v3, rfl, ⟨q3, rfl, H3⟩, E3⟩
  have R3 := hide (H3.adv HLA.out)
  obtain ⟨q3, c3, rfl⟩ := H3.slice
  have X3 := hide (X2.out.trans E3)
  have B1 := hide (B1.out.ext E3)
  have B2 := hide (B2.out.ext E3)
  clear H3 E3 d0 d1 dz
  obtain ⟨d0, d1, dz⟩ := B1.out.cells
  go_wp2_with fail
  refine (C3.out _ _ (B1.out.rep.ext ((Ext.refl w3).alloc _))).mono ?_
  rintro e w4 ⟨rfl, E4⟩
  have B3 := hide ((AB.new R3.out).ext E4)
  have Y4 := ((Ext.refl w3).alloc (.cells #[.int .i64 A.n, .slice q3 A.st.length c3] 26)).trans E4
  have B1 := hide (B1.out.ext Y4)
  have B2 := hide (B2.out.ext Y4)
  have X4 := hide (X3.out.trans Y4)
  clear Y4 E4 d0 d1 dz
  obtain ⟨d0, d1, dz⟩ := B2.out.cells
  go_wp2_with fail
  refine (C4.out _ _ B2.out.rep).mono ?_
  rintro e w5 ⟨rfl, E5⟩
  have B1 := hide (B1.out.ext E5)
  have B2 := hide (B2.out.ext E5)
  have B3 := hide (B3.out.ext E5)
  have X5 := hide (X4.out.trans E5)
  clear E5 d0 d1 dz
  obtain ⟨d0, d1, dz⟩ := B1.out.cells
  obtain ⟨t0, t1, tz⟩ := B3.out.cells
  go_wp2_with fail
  refine (C5.out _ _ _ B3.out.rep B1.out.rep).mono ?_
  rintro e w6 ⟨rfl, E6⟩
  have B1 := hide (B1.out.ext E6)
  have B2 := hide (B2.out.ext E6)
  have X6 := hide (X5.out.trans E6)
  clear E6 d0 d1 dz t0 t1 tz B3
  obtain ⟨d0, d1, dz⟩ := B1.out.cells
  go_wp2_with fail
  cases hsm : smallB l with
  | false =>
    rw [hsm] at HS
    refine wp_region_ext (by kernel_rfl) (by kernel_rfl) ?_
    repeat (go_big_quiet_step (first | (go_at_call 16; exact Calls.ext_of (HS.out _ (X6.out.trans (ExtOf.h _))))))
    refine wpQuiet_nil ?_
    rintro w7 ⟨⟨_, E7⟩, rfl⟩
    have X7 := hide (X6.out.trans E7)
    clear E7 d0 d1 dz
    go_wp2_with fail
    refine (HA.out _).mono ?_
    rintro e w8 ⟨rfl, E8⟩
    go_wp2_with fail
    go_ret
    exact ⟨rfl, X7.out.trans E8⟩
  | true =>
  rw [hsm] at HS
  have hpos : 0 < l.length := by
    unfold smallB at hsm
    simp only [Bool.and_eq_true, decide_eq_true_eq] at hsm
    exact hsm.2.1
  obtain ⟨rb, ro, rfl, hrb, hrat⟩ := HAT.out hpos
  obtain ⟨x0, -, -, -, -, -, -⟩ := hrat 0 hpos
  replace x0 := x0 w6 X6.out
  rw [Nat.zero_mul, Nat.add_zero] at x0
  have hzb : rb < w6.heap.size := Nat.lt_of_lt_of_le hrb X6.out.size
  have hposI : (0 : Int) < l.length := by omega
  clear hsm hrat
  by_cases hg : (l.getD 0 default).g.n = A.n
  case neg =>
    have hgb : ((l.getD 0 default).g.n != A.n) = true := by simpa using hg
    generalize (l.getD 0 default).g.n = gn at x0 hgb
    clear hg
    refine wp_region_ext (by kernel_rfl) (by kernel_rfl) ?_
    repeat (go_big_quiet_step (first | (go_at_call 16; exact Calls.ext_of (HS.out _ (X6.out.trans (ExtOf.h _))))))
    refine wpQuiet_nil ?_
    rintro w7 ⟨⟨_, E7⟩, rfl⟩
    have X7 := hide (X6.out.trans E7)
    clear E7 d0 d1 dz x0 hzb
    go_wp2_with fail
    refine (HA.out _).mono ?_
    rintro e w8 ⟨rfl, E8⟩
    go_wp2_with fail
    go_ret
    exact ⟨rfl, X7.out.trans E8⟩
  case pos =>
  have hgb : ((l.getD 0 default).g.n != A.n) = false := by simpa using hg
  generalize (l.getD 0 default).g.n = gn at x0 hgb
  clear hg
  refine wp_region_ext (by kernel_rfl) (by kernel_rfl) ?_
  repeat (go_big_quiet_step (first | (go_at_call 16; exact Calls.ext_of (HS.out _ (X6.out.trans (ExtOf.h _))))))
  refine wpQuiet_nil ?_
  rintro w7 ⟨⟨_, E7⟩, rfl⟩
  have X7 := hide (X6.out.trans E7)
  have B1 := hide (B1.out.ext E7)
  have B2 := hide (B2.out.ext E7)
  clear E7 d0 d1 dz x0 hzb
  obtain ⟨d0, d1, dz⟩ := B1.out.cells
  go_wp2_with fail
  refine (P1.out _ _ X7.out B1.out.rep).mono ?_
  rintro e w8 ⟨rfl, E8⟩
  have X8 := hide (X7.out.trans E8)
  have B2 := hide (B2.out.ext E8)
  clear E8 d0 d1 dz hgb
  obtain ⟨d0, d1, dz⟩ := B2.out.cells
  go_wp2_with fail
  refine (P2.out _ _ X8.out B2.out.rep).mono ?_
  rintro e w9 ⟨rfl, E9⟩
  have X9 := hide (X8.out.trans E9)
  clear E9 d0 d1 dz
  rcases J1.out with rfl | ⟨rfl, rfl⟩
  all_goals
    go_wp2_with fail
    refine (HA.out _).mono ?_
    rintro e w10 ⟨rfl, E10⟩
    go_wp2_with fail
    go_ret
    exact ⟨rfl, X9.out.trans E10⟩
end Go.Proofs.YtdlhnpogddpmpaaGreat
