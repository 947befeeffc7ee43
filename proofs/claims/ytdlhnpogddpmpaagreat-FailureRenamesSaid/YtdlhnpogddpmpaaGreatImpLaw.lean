/-
  The law FailureImplies: the walk.
  Conditions: none.
-/
import Derived.Test.YtdlhnpogddpmpaaGreatFailBb
import Derived.Test.YtdlhnpogddpmpaaGreatPartLaw
import Derived.Test.YtdlhnpogddpmpaaGreatFailAX
import Derived.Test.YtdlhnpogddpmpaaGreatStateP
import Derived.Test.YtdlhnpogddpmpaaGreatRWordP
namespace Go.Proofs.YtdlhnpogddpmpaaGreat
open Go.RowKit
attribute [local go_sem] Oper.semAt_some

/-- An adversary in a variable's block. -/
structure AB (W : World) (b : Nat) (q : Option Addr) (c : Nat) (A : Adv) : Prop where
  blk : W.heap[b]? = some (.cells #[.int .i64 A.n, .slice q A.st.length c] 26 (0, 0))
  rep : AdvRep W (.agg #[.int .i64 A.n, .slice q A.st.length c]) A
theorem AB.ext {W W' : World} {b : Nat} {q : Option Addr} {c : Nat} {A : Adv} (h : AB W b q c A) (hE : Ext W W') : AB W' b q c A := ⟨(hE.b.block _ (lt_of_heap h.blk)).trans h.blk, h.rep.ext hE⟩
theorem AB.new {W : World} {q : Option Addr} {c : Nat} {A : Adv} (h : AdvRep W (.agg #[.int .i64 A.n, .slice q A.st.length c]) A) : AB (W.alloc (.cells #[.int .i64 A.n, .slice q A.st.length c] 26)) W.heap.size q c A := ⟨heap_alloc_new W _, h.ext ((Ext.refl W).alloc _)⟩
theorem AB.cells {W : World} {b : Nat} {q : Option Addr} {c : Nat} {A : Adv} (h : AB W b q c A) : W.cell? ⟨b, 0, none⟩ = some (.int .i64 A.n) ∧ W.cell? ⟨b, 1, none⟩ = some (.slice q A.st.length c) ∧ b < W.heap.size := ⟨cells_at h.blk 0, cells_at h.blk 1, lt_of_heap h.blk⟩
/-- A word of one to three rounds. -/
def smallB (l : List Rd) : Bool := decide (l.length ≤ 3) && (decide (0 < l.length) && decide (wordE (l.getD 0 default).g.n l = 0))
set_option maxRecDepth 16000 in
theorem small_any (l : List Rd) (v : Value) (w : World) (hv : Row Rd.cells 7 w v l) : Calls Tryz.prog 16 #[v] w fun e w' => e = .returned (.bool (smallB l)) ∧ Ext w w' := by
  have HW := hide (fun (n : Int) W (hE : Ext w W) => rrword_any n l v W (hv.ext hE))
  obtain ⟨p, c, rfl, hc, hlen, hat⟩ := hv.rd_all
  have HA := hide hat
  clear hv hat
  unfold smallB
  by_cases h3 : l.length ≤ 3
  · by_cases h0 : 0 < l.length
    · obtain ⟨b, o, rfl, hb, hat⟩ := HA.out h0
      obtain ⟨x0, x1, x2, x3, x4, x5, x6⟩ := hat 0 h0
      rw [decide_eq_true h3, decide_eq_true h0, Bool.true_and, Bool.true_and]
      have HN := hide (HW.out (l.getD 0 default).g.n)
      generalize wordE (l.getD 0 default).g.n l = res at HN ⊢
      generalize l.getD 0 default = r at x0 x1 x2 x3 x4 x5 x6 HN
      have h3I : (l.length : Int) ≤ 3 := by omega
      have h0I : (0 : Int) < l.length := by omega
      replace x0 := x0 w (Ext.refl w)
      rw [Nat.zero_mul, Nat.add_zero] at x0
      clear x1 x2 x3 x4 x5 x6
      clear hat HA HW h3 h0
      go_enter Tryz.func16, Tryz.ntmps16
      go_wp2_with fail
      refine (HN.out _ (Ext.refl _)).mono ?_
      rintro e w1 ⟨rfl, hE⟩
      go_wp2_with fail
      go_ret
      exact ⟨rfl, hE⟩
    · have h0I : ¬ (0 : Int) < l.length := by omega
      have h3I : (l.length : Int) ≤ 3 := by omega
      rw [decide_eq_true h3, decide_eq_false h0]
      clear h3 h0 HA HW
      go_enter Tryz.func16, Tryz.ntmps16
      go_wp2_with fail
      go_ret
      exact ⟨rfl, Ext.refl _⟩
  · have h3I : ¬ (l.length : Int) ≤ 3 := by omega
    rw [decide_eq_false h3]
    clear h3 HA HW
    go_enter Tryz.func16, Tryz.ntmps16
    go_wp2_with fail
    go_ret
    exact ⟨rfl, Ext.refl _⟩
/-- An adversary that is returned, without an error. -/
def RetA (A : Adv) (W : World) (e : Ending) (W' : World) : Prop := ∃ (q : Option Addr) (c : Nat), e = .returned (.tuple #[.agg #[.int .i64 A.n, .slice q A.st.length c], .int .i64 0]) ∧ AdvRep W' (.agg #[.int .i64 A.n, .slice q A.st.length c]) A ∧ Ext W W'
theorem RetF.ok {A : Adv} {W : World} {e : Ending} {W' : World} (h : RetF (A, 0) W e W') : RetA A W e W' := by
  obtain ⟨v, rfl, hv, hE⟩ := h
  obtain ⟨sv, rfl, hco, -⟩ := id hv
  obtain ⟨q, c, rfl⟩ := hco.sl
  exact ⟨q, c, rfl, hv.rep, hE⟩
theorem small_rdN {l : List Rd} {N : Nat} (h : smallB l = true) (hN : (l.getD 0 default).g.n = N) : ∀ r ∈ l, RdN N r := by
  unfold smallB at h
  simp only [Bool.and_eq_true, decide_eq_true_eq] at h
  obtain ⟨_, _, h⟩ := h
  unfold wordE at h
  split at h
  · cases h
  · split at h
    · cases h
    · intro r hr
      obtain ⟨i, hi, rfl⟩ := List.mem_iff_getElem.1 hr
      have hw := firstErr_zero.1 h i hi
      have hg : l.getD i default = l[i] := by rw [List.getD_eq_getElem?_getD, List.getElem?_eq_getElem hi]; rfl
      unfold wErr at hw
      rw [hg] at hw
      by_cases h1 : rchk l[i] = 0
      · rw [if_neg (fun k => k h1)] at hw
        by_cases h2 : l[i].g.n = (l.getD 0 default).g.n
        · exact rdN_of h1 (h2.trans hN)
        · rw [if_pos h2] at hw; cases hw
      · rw [if_pos h1] at hw; exact absurd hw h1
theorem allows_dec {A : Adv} {l : List Rd} {P : Prop} [Decidable P] (h0 : achk A = 0) (h : 0 ≤ after A 0 l ↔ P) : allowsS A l = (decide P, 0) := by
  unfold allowsS
  rw [if_pos h0]
  exact Prod.ext (by simp only; exact decide_eq_decide.2 h) rfl
set_option maxRecDepth 16000 in
set_option maxHeartbeats 4000000 in
theorem failureImplies_law (n f : Nat) (u : Value) (l : List Rd) (w : World) (hn : n < 256) (hf : f < 256) (hl : Row Rd.cells 7 w u l) : Calls Tryz.prog 4 #[.int .u8 n, .int .u8 f, u] w fun e w' => e = .returned (.bool true) ∧ Ext w w' := by
  obtain ⟨N, hN, hN23⟩ : ∃ N : Nat, 2 + (n : Int) % 2 = N ∧ (N = 2 ∨ N = 3) := ⟨2 + n % 2, by omega, by omega⟩
  obtain ⟨M, hM, hMN⟩ : ∃ M : Nat, (f : Int) % (N : Int) = M ∧ M < N := ⟨f % N, by omega, Nat.mod_lt _ (by omega)⟩
  obtain ⟨A1, FA1⟩ := faultA (op := 1) (n := N) (f := M) (by omega) (by omega) (by omega) (by omega)
  obtain ⟨A2, FA2⟩ := faultA (op := 4) (n := N) (f := M) (by omega) (by omega) (by omega) (by omega)
  obtain ⟨A3, FA3⟩ := faultA (op := 2) (n := N) (f := 1) (by omega) (by omega) (by omega) (by omega)
  obtain ⟨A4, FA4⟩ := faultA (op := 3) (n := N) (f := 1) (by omega) (by omega) (by omega) (by omega)
  obtain ⟨A5, FA5⟩ := faultA (op := 4) (n := N) (f := 1) (by omega) (by omega) (by omega) (by omega)
  have C1 : Hid (∀ W, Calls Tryz.prog 14 #[.int .i64 N, .int .i64 ((f : Int) % (N : Int))] W (RetA A1 W)) := fun W => ((pcrash_any (N : Int) ((f : Int) % (N : Int)) W).mono fun e W' h => RetF.ok (by rw [show mdlA 1 (N : Int) ((f : Int) % (N : Int)) = (A1, 0) from (by rw [hM]; exact FA1.eq)] at h; exact h))
  have C2 : Hid (∀ W, Calls Tryz.prog 11 #[.int .i64 N, .int .i64 ((f : Int) % (N : Int))] W (RetA A2 W)) := fun W => ((pomit_any (N : Int) ((f : Int) % (N : Int)) W).mono fun e W' h => RetF.ok (by rw [show mdlA 4 (N : Int) ((f : Int) % (N : Int)) = (A2, 0) from (by rw [hM]; exact FA2.eq)] at h; exact h))
  have C3 : Hid (∀ W, Calls Tryz.prog 15 #[.int .i64 N, .int .i64 1] W (RetA A3 W)) := fun W => ((psend_any (N : Int) 1 W).mono fun e W' h => RetF.ok (by rw [show mdlA 2 (N : Int) 1 = (A3, 0) from (FA3.eq)] at h; exact h))
  have C4 : Hid (∀ W, Calls Tryz.prog 9 #[.int .i64 N, .int .i64 1] W (RetA A4 W)) := fun W => ((precv_any (N : Int) 1 W).mono fun e W' h => RetF.ok (by rw [show mdlA 3 (N : Int) 1 = (A4, 0) from (FA4.eq)] at h; exact h))
  have C5 : Hid (∀ W, Calls Tryz.prog 11 #[.int .i64 N, .int .i64 1] W (RetA A5 W)) := fun W => ((pomit_any (N : Int) 1 W).mono fun e W' h => RetF.ok (by rw [show mdlA 4 (N : Int) 1 = (A5, 0) from (FA5.eq)] at h; exact h))
  have HS := hide (fun W (hE : Ext w W) => small_any l u W (hl.ext hE))
  have HA := hide (fun W => awake17_any W)
  have HNN := hide hN
  have HL := hide hl
  have P1 := hide (fun W (v : Value) (hE : Ext w W) (hA : AdvRep W v A1) => pallows_any A1 v u l W hA (hl.ext hE) (by have := FA1.mv; omega))
  have K1 : Hid (smallB l = true → (l.getD 0 default).g.n = N → ∃ b : Bool, allowsS A1 l = (b, 0) ∧ (b = true ↔ ChainF 1 N M 0 l)) := fun hs hg => by
    classical
    exact ⟨_, allows_dec FA1.chk ((FA1.allows l).trans (chain_iff (by omega) (by omega) l 0 (Nat.two_pow_pos _) (small_rdN hs hg))), decide_eq_true_iff⟩
  have P2 := hide (fun W (v : Value) (hE : Ext w W) (hA : AdvRep W v A2) => pallows_any A2 v u l W hA (hl.ext hE) (by have := FA2.mv; omega))
  have K2 : Hid (smallB l = true → (l.getD 0 default).g.n = N → ∃ b : Bool, allowsS A2 l = (b, 0) ∧ (b = true ↔ ChainF 4 N M 0 l)) := fun hs hg => by
    classical
    exact ⟨_, allows_dec FA2.chk ((FA2.allows l).trans (chain_iff (by omega) (by omega) l 0 (Nat.two_pow_pos _) (small_rdN hs hg))), decide_eq_true_iff⟩
  have P3 := hide (fun W (v : Value) (hE : Ext w W) (hA : AdvRep W v A3) => pallows_any A3 v u l W hA (hl.ext hE) (by have := FA3.mv; omega))
  have K3 : Hid (smallB l = true → (l.getD 0 default).g.n = N → ∃ b : Bool, allowsS A3 l = (b, 0) ∧ (b = true ↔ ChainF 2 N 1 0 l)) := fun hs hg => by
    classical
    exact ⟨_, allows_dec FA3.chk ((FA3.allows l).trans (chain_iff (by omega) (by omega) l 0 (Nat.two_pow_pos _) (small_rdN hs hg))), decide_eq_true_iff⟩
  have P4 := hide (fun W (v : Value) (hE : Ext w W) (hA : AdvRep W v A4) => pallows_any A4 v u l W hA (hl.ext hE) (by have := FA4.mv; omega))
  have K4 : Hid (smallB l = true → (l.getD 0 default).g.n = N → ∃ b : Bool, allowsS A4 l = (b, 0) ∧ (b = true ↔ ChainF 3 N 1 0 l)) := fun hs hg => by
    classical
    exact ⟨_, allows_dec FA4.chk ((FA4.allows l).trans (chain_iff (by omega) (by omega) l 0 (Nat.two_pow_pos _) (small_rdN hs hg))), decide_eq_true_iff⟩
  have P5 := hide (fun W (v : Value) (hE : Ext w W) (hA : AdvRep W v A5) => pallows_any A5 v u l W hA (hl.ext hE) (by have := FA5.mv; omega))
  have K5 : Hid (smallB l = true → (l.getD 0 default).g.n = N → ∃ b : Bool, allowsS A5 l = (b, 0) ∧ (b = true ↔ ChainF 4 N 1 0 l)) := fun hs hg => by
    classical
    exact ⟨_, allows_dec FA5.chk ((FA5.allows l).trans (chain_iff (by omega) (by omega) l 0 (Nat.two_pow_pos _) (small_rdN hs hg))), decide_eq_true_iff⟩
  have I1 : Hid (smallB l = true → (l.getD 0 default).g.n = N → ChainF 1 N M 0 l → ChainF 4 N M 0 l) := fun hs hg => ChainF.imp (fun k r hr _ h => crash_omit (by omega) hMN hr h) l 0 (Nat.two_pow_pos _) (small_rdN hs hg)
  have I2 : Hid (smallB l = true → (l.getD 0 default).g.n = N → ChainF 2 N 1 0 l → ChainF 4 N 1 0 l) := fun hs hg => ChainF.imp (fun k r hr _ h => single_omit (.inl rfl) (by omega) hr h) l 0 (Nat.two_pow_pos _) (small_rdN hs hg)
  have I3 : Hid (smallB l = true → (l.getD 0 default).g.n = N → ChainF 3 N 1 0 l → ChainF 4 N 1 0 l) := fun hs hg => ChainF.imp (fun k r hr _ h => single_omit (.inr rfl) (by omega) hr h) l 0 (Nat.two_pow_pos _) (small_rdN hs hg)
  clear hN hM hMN hl FA1 FA2 FA3 FA4 FA5
  obtain ⟨p, c, rfl, hc, hlen, hat⟩ := HL.out.rd_all
  have HAT := hide hat
  have HLEN := hide hlen
  clear hat hlen hc
  go_enter Tryz.func4, Tryz.ntmps4
  go_wp2_with fail
  rw [HNN.out]
  refine (C1.out _).mono ?_
  rintro e w1 ⟨q1, c1, rfl, R1, E1⟩
  have X1 : Hid (Ext w w1) := by first | exact E1 | exact ((Ext.refl w).alloc _).trans E1
  replace R1 := hide R1
  clear E1
  go_wp2_with fail
  refine (C2.out _).mono ?_
  rintro e w2 ⟨q2, c2, rfl, R2, E2⟩
  have B1 := hide ((AB.new R1.out).ext E2)
  have X2 := hide (X1.out.trans (((Ext.refl w1).alloc _).trans E2))
  replace R2 := hide R2
  clear E2
  go_wp2_with fail
  refine (C3.out _).mono ?_
  rintro e w3 ⟨q3, c3, rfl, R3, E3⟩
  have B2 := hide ((AB.new R2.out).ext E3)
  have B1 := hide (B1.out.ext (((Ext.refl w2).alloc _).trans E3))
  have X3 := hide (X2.out.trans (((Ext.refl w2).alloc _).trans E3))
  replace R3 := hide R3
  clear E3
  go_wp2_with fail
  refine (C4.out _).mono ?_
  rintro e w4 ⟨q4, c4, rfl, R4, E4⟩
  have B3 := hide ((AB.new R3.out).ext E4)
  have B1 := hide (B1.out.ext (((Ext.refl w3).alloc _).trans E4))
  have B2 := hide (B2.out.ext (((Ext.refl w3).alloc _).trans E4))
  have X4 := hide (X3.out.trans (((Ext.refl w3).alloc _).trans E4))
  replace R4 := hide R4
  clear E4
  go_wp2_with fail
  refine (C5.out _).mono ?_
  rintro e w5 ⟨q5, c5, rfl, R5, E5⟩
  have B4 := hide ((AB.new R4.out).ext E5)
  have B1 := hide (B1.out.ext (((Ext.refl w4).alloc _).trans E5))
  have B2 := hide (B2.out.ext (((Ext.refl w4).alloc _).trans E5))
  have B3 := hide (B3.out.ext (((Ext.refl w4).alloc _).trans E5))
  have X5 := hide (X4.out.trans (((Ext.refl w4).alloc _).trans E5))
  replace R5 := hide R5
  clear E5
  go_wp2_with fail
  cases hsm : smallB l with
  | false =>
    rw [hsm] at HS
    refine (HS.out _ (X5.out.trans ((Ext.refl w5).alloc _))).mono ?_
    rintro e w6 ⟨rfl, E6⟩
    have X6 := hide (X5.out.trans (((Ext.refl w5).alloc _).trans E6))
    clear E6
    go_wp2_with fail
    refine (HA.out _).mono ?_
    rintro e w7 ⟨rfl, E7⟩
    go_wp2_with fail
    go_ret
    exact ⟨rfl, X6.out.trans E7⟩
  | true =>
  have hpos : 0 < l.length := by
    unfold smallB at hsm
    simp only [Bool.and_eq_true, decide_eq_true_eq] at hsm
    exact hsm.2.1
  obtain ⟨rb, ro, rfl, hrb, hrat⟩ := HAT.out hpos
  rw [hsm] at HS
  refine (HS.out _ (X5.out.trans ((Ext.refl w5).alloc _))).mono ?_
  rintro e w6 ⟨rfl, E6⟩
  have B5 := hide ((AB.new R5.out).ext E6)
  have B1 := hide (B1.out.ext (((Ext.refl w5).alloc _).trans E6))
  have B2 := hide (B2.out.ext (((Ext.refl w5).alloc _).trans E6))
  have B3 := hide (B3.out.ext (((Ext.refl w5).alloc _).trans E6))
  have B4 := hide (B4.out.ext (((Ext.refl w5).alloc _).trans E6))
  have X6 := hide (X5.out.trans (((Ext.refl w5).alloc _).trans E6))
  clear E6
  obtain ⟨x0, -, -, -, -, -, -⟩ := hrat 0 hpos
  replace x0 := x0 w6 X6.out
  rw [Nat.zero_mul, Nat.add_zero] at x0
  have hzb : rb < w6.heap.size := Nat.lt_of_lt_of_le hrb X6.out.size
  have hposI : (0 : Int) < l.length := by omega
  have HSM := hide hsm
  clear hsm hrat
  by_cases hg : (l.getD 0 default).g.n = N
  case neg =>
    have hgb : ((l.getD 0 default).g.n != (N : Int)) = true := by simpa using hg
    generalize (l.getD 0 default).g.n = gn at x0 hgb
    clear hg
    go_wp2_with fail
    refine (HA.out _).mono ?_
    rintro e w7 ⟨rfl, E7⟩
    go_wp2_with fail
    go_ret
    exact ⟨rfl, X6.out.trans E7⟩
  case pos =>
  have hgb : ((l.getD 0 default).g.n != (N : Int)) = false := by simpa using hg
  obtain ⟨b1, a1, k1⟩ := K1.out HSM.out hg
  rw [a1] at P1
  obtain ⟨b2, a2, k2⟩ := K2.out HSM.out hg
  rw [a2] at P2
  obtain ⟨b3, a3, k3⟩ := K3.out HSM.out hg
  rw [a3] at P3
  obtain ⟨b4, a4, k4⟩ := K4.out HSM.out hg
  rw [a4] at P4
  obtain ⟨b5, a5, k5⟩ := K5.out HSM.out hg
  rw [a5] at P5
  have J1 : b2 = true ∨ (b2 = false ∧ b1 = false) := by
    cases hb2 : b2 with
    | true => exact .inl rfl
    | false =>
      cases hb1 : b1 with
      | false => exact .inr ⟨rfl, rfl⟩
      | true => rw [k2.2 (I1.out HSM.out hg (k1.1 hb1))] at hb2; cases hb2
  have J2 : b5 = true ∨ (b5 = false ∧ b3 = false ∧ b4 = false) := by
    cases hb5 : b5 with
    | true => exact .inl rfl
    | false =>
      cases hb3 : b3 with
      | true => rw [k5.2 (I2.out HSM.out hg (k3.1 hb3))] at hb5; cases hb5
      | false =>
        cases hb4 : b4 with
        | false => exact .inr ⟨rfl, rfl, rfl⟩
        | true => rw [k5.2 (I3.out HSM.out hg (k4.1 hb4))] at hb5; cases hb5
  replace J1 := hide J1
  replace J2 := hide J2
  clear k1 k2 k3 k4 k5 a1 a2 a3 a4 a5 K1 K2 K3 K4 K5 I1 I2 I3
  generalize (l.getD 0 default).g.n = gn at x0 hgb
  clear hg
  obtain ⟨d0, d1, dz⟩ := B1.out.cells
  go_wp2_with fail
  refine (P1.out _ _ X6.out B1.out.rep).mono ?_
  rintro e w7 ⟨rfl, E7⟩
  have X7 := hide (X6.out.trans E7)
  have B2 := hide (B2.out.ext E7)
  have B3 := hide (B3.out.ext E7)
  have B4 := hide (B4.out.ext E7)
  have B5 := hide (B5.out.ext E7)
  clear E7 d0 d1 dz x0 hgb hzb
  obtain ⟨d0, d1, dz⟩ := B2.out.cells
  go_wp2_with fail
  refine (P2.out _ _ X7.out B2.out.rep).mono ?_
  rintro e w8 ⟨rfl, E8⟩
  have X8 := hide (X7.out.trans E8)
  have B3 := hide (B3.out.ext E8)
  have B4 := hide (B4.out.ext E8)
  have B5 := hide (B5.out.ext E8)
  clear E8 d0 d1 dz
  obtain ⟨d0, d1, dz⟩ := B3.out.cells
  go_wp2_with fail
  refine (P3.out _ _ X8.out B3.out.rep).mono ?_
  rintro e w9 ⟨rfl, E9⟩
  have X9 := hide (X8.out.trans E9)
  have B4 := hide (B4.out.ext E9)
  have B5 := hide (B5.out.ext E9)
  clear E9 d0 d1 dz
  obtain ⟨d0, d1, dz⟩ := B4.out.cells
  go_wp2_with fail
  refine (P4.out _ _ X9.out B4.out.rep).mono ?_
  rintro e w10 ⟨rfl, E10⟩
  have X10 := hide (X9.out.trans E10)
  have B5 := hide (B5.out.ext E10)
  clear E10 d0 d1 dz
  obtain ⟨d0, d1, dz⟩ := B5.out.cells
  go_wp2_with fail
  refine (P5.out _ _ X10.out B5.out.rep).mono ?_
  rintro e w11 ⟨rfl, E11⟩
  have X11 := hide (X10.out.trans E11)
  clear E11 d0 d1 dz
  rcases J1.out with rfl | ⟨rfl, rfl⟩
  all_goals
    rcases J2.out with rfl | ⟨rfl, rfl, rfl⟩
    all_goals
      go_wp2_with fail
      refine (HA.out _).mono ?_
      rintro e w12 ⟨rfl, E12⟩
      go_wp2_with fail
      go_ret
      exact ⟨rfl, X11.out.trans E12⟩
end Go.Proofs.YtdlhnpogddpmpaaGreat
