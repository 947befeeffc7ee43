/-
  The walk of 'RoundJoins'.
  Conditions: the tables lie in the heap (Tz, Ml).
-/
import Derived.Test.YtfnhjalnbmnlaaaDoorAw15
import Derived.Test.YtfnhjalnbmnlaaaDoorRdFew
import Derived.Test.YtfnhjalnbmnlaaaDoorRdLaw
namespace Go.Proofs.YtfnhjalnbmnlaaaDoor
open Go.RowKit
attribute [local go_sem] Oper.semAt_some

/-- A word's beginning. -/
theorem Row.begin {w : World} {p : Option Addr} {n c : Nat} {xs : List Rd} (h : Row Rd.cells 7 w (.slice p n c) xs) {m : Nat} (hm : m ≤ xs.length) : Row Rd.cells 7 w (.slice p m c) (xs.take m) := by
  obtain ⟨p', c', hv, h1, h2, h3⟩ := h
  injection hv with e1 e2 e3
  subst e1 e2 e3
  have hl : (xs.take m).length = m := by rw [List.length_take]; omega
  refine ⟨p, c, by rw [hl], by rw [hl]; omega, ⟨h2.1, by rw [hl]; omega⟩, fun h0 => ?_⟩
  rw [hl] at h0
  obtain ⟨b, o, hp, hb, hat⟩ := h3 (by omega)
  refine ⟨b, o, hp, hb, fun i x hx => hat i x ?_⟩
  rw [List.getElem?_take] at hx
  split at hx
  · exact hx
  · cases hx
/-- A word's end. -/
theorem Row.ending {w : World} {b o n c : Nat} {xs : List Rd} (h : Row Rd.cells 7 w (.slice (some ⟨b, o, none⟩) n c) xs) {m : Nat} (hm : m < xs.length) : Row Rd.cells 7 w (.slice (some ⟨b, o + m * 7, none⟩) (n - m) (c - m)) (xs.drop m) := by
  obtain ⟨p', c', hv, h1, h2, h3⟩ := h
  injection hv with e1 e2 e3
  subst e2 e3
  have hl : (xs.drop m).length = xs.length - m := List.length_drop
  refine ⟨some ⟨b, o + m * 7, none⟩, c - m, by rw [hl], by rw [hl]; omega, ⟨by have := h2.1; omega, by rw [hl]; omega⟩, fun _ => ?_⟩
  obtain ⟨b', o', hp, hb, hat⟩ := h3 (by omega)
  rw [← e1] at hp
  cases hp
  refine ⟨b, o + m * 7, rfl, hb, fun i x hx j u hu => ?_⟩
  rw [List.getElem?_drop] at hx
  have := hat (m + i) x hx j u hu
  rwa [Nat.add_mul, ← Nat.add_assoc] at this
/-- An empty slice of rounds holds no round. -/
theorem Row.none {w : World} (p : Option Addr) {c : Nat} (hc : c ≤ 9223372036854775807) : Row Rd.cells 7 w (.slice p 0 c) ([] : List Rd) := ⟨p, c, rfl, Nat.zero_le _, ⟨hc, by decide⟩, fun h => absurd h (by decide)⟩
theorem prodS_ok {m : Nat} {l : List Rd} (h : WordOk m l) : productS m l = (prodL m l, 0) := by unfold productS; rw [if_neg (fun k => k (word_ok h)), Int.toNat_natCast]
theorem oblS_ok {m : Nat} {l : List Rd} (h : WordOk m l) : obligedS m l = (((oblN m l : Nat) : Int), 0) := by unfold obligedS; rw [if_neg (fun k => k (word_ok h)), Int.toNat_natCast]
theorem fauS_ok {m : Nat} {l : List Rd} (h : WordOk m l) : faultyS m l = (lastF l, 0) := by unfold faultyS; rw [if_neg (fun k => k (word_ok h))]
theorem join_bits {m late early faulty : Nat} (hm5 : m ≤ 5) (f1 : late &&& early = late) (f2 : late &&& faulty = 0) (f3 : late ||| faulty = 2 ^ m - 1) (f4 : late < 2 ^ m) (f5 : early < 2 ^ m) (f6 : faulty < 2 ^ m) :
    ∃ y : Nat, wrap64 (2 ^ m) = (y : Int) ∧ 1 ≤ y ∧ y ≤ 32 ∧ (bits .andNot .i64 (late : Int) (early : Int) == 0) = true ∧ bits .and .i64 (late : Int) (faulty : Int) = 0 ∧ bits .or .i64 (late : Int) (faulty : Int) = (y : Int) - 1 := by
  have hp32 : 2 ^ m ≤ 32 := pow2_32 hm5
  have hppos : 1 ≤ 2 ^ m := Nat.two_pow_pos m
  have hsh := pow_shl10 m (by omega)
  generalize 2 ^ m = y at hsh hp32 hppos f3 f4 f5 f6
  have hl : late < 32 := Nat.lt_of_lt_of_le f4 hp32
  have he : early < 32 := Nat.lt_of_lt_of_le f5 hp32
  have hf : faulty < 32 := Nat.lt_of_lt_of_le f6 hp32
  refine ⟨y, hsh, hppos, hp32, ?_, ?_, ?_⟩
  · have h1 := andnot_inside (a := (late : Int)) (b := (early : Int)) (by omega) (by omega) (by omega) (by omega)
    rw [(inside_iff hl he).2 (fun q hq => by rw [← f1, Nat.testBit_and, Bool.and_eq_true] at hq; exact hq.2)] at h1
    rw [bne, Bool.not_true, Bool.not_eq_false'] at h1
    exact h1
  · rw [i64_and_nat late faulty (Nat.lt_trans hl (by decide)) (Nat.lt_trans hf (by decide)), f2]; rfl
  · rw [i64_or_nat late faulty (Nat.lt_trans hl (by decide)) (Nat.lt_trans hf (by decide)), f3]
    omega
set_option maxRecDepth 100000 in
set_option maxHeartbeats 8000000 in
theorem rjoins_law (n : Int) (l : List Rd) (u : Value) (at_ : Int) (h0 : 0 ≤ at_) (h1 : at_ < 256) (w : World) (hu : Row Rd.cells 7 w u l) (hT : Tz w) (hM : Ml w) : Calls Tryd.prog 6 #[.int .i64 n, u, .int .u8 at_] w fun e w' => e = .returned (.bool true) ∧ Ext w w' := by
  have HAW := hide (fun W (hE : Ext w W) => awake_any W (hT.ext hE) (Ml.ext hM hE))
  have HG1 := hide (fun W (hE : Ext w W) => rdgood_any n l u W (hu.ext hE))
  have HE : Hid (Ext w w) := Ext.refl w
  have HU := hide hu
  have HTT := hide hT
  obtain ⟨p, c, rfl, hc, hlen, hat⟩ := hu.rd_all
  have HA := hide hat
  have hcm : c ≤ 9223372036854775807 := by
    obtain ⟨_, _, hv, _, h2, _⟩ := hu
    injection hv with _ _ e
    have := h2.1
    omega
  clear hu hT hM hat
  by_cases ha : l.length ≤ 12 ∧ wordE n l = 0
  case neg =>
    have hga : goodB n l = false := decide_eq_false ha
    rw [hga] at HG1
    clear ha hga
    go_enter Tryd.func6, Tryd.ntmps6
    go_wp2_with fail
    refine (HG1.out _ HE.out).mono ?_
    rintro e w1 ⟨rfl, hE⟩
    have HE := hide (HE.out.trans hE)
    clear hE
    go_wp2_with fail
    refine (HAW.out _ HE.out).mono ?_
    rintro e w2 ⟨rfl, hE⟩
    have HE := hide (HE.out.trans hE)
    clear hE
    go_wp2_with fail
    go_ret
    exact ⟨rfl, HE.out⟩
  case pos =>
  have hga : goodB n l = true := decide_eq_true ha
  rw [hga] at HG1
  obtain ⟨m, rfl, ho⟩ := word_of ha.2
  obtain ⟨a, rfl⟩ : ∃ a : Nat, at_ = a := ⟨at_.toNat, by omega⟩
  have hrem : Int.tmod (a : Int) ((l.length : Int) + 1) = ((a % (l.length + 1) : Nat) : Int) := (Int.ofNat_tmod a (l.length + 1)).symm
  have hk : a % (l.length + 1) < l.length + 1 := Nat.mod_lt _ (by omega)
  generalize a % (l.length + 1) = k at hrem hk
  have hkl : k ≤ l.length := by omega
  have hl12 : l.length ≤ 12 := ha.1
  go_enter Tryd.func6, Tryd.ntmps6
  go_wp2_with fail
  refine (HG1.out _ HE.out).mono ?_
  rintro e w1 ⟨rfl, hE⟩
  have HE := hide (HE.out.trans hE)
  clear hE
  have HC1 := hide (fun W (hE : Ext w W) => rdproduct_any m (l.take k) (.slice p k c) W (HTT.out.ext hE) ((HU.out.begin hkl).ext hE))
  obtain ⟨ga, hga_⟩ : ∃ g, prodL m (l.take k) = g := ⟨_, rfl⟩
  obtain ⟨gb, hgb_⟩ : ∃ g, prodL m (l.drop k) = g := ⟨_, rfl⟩
  have HGA := hide hga_
  have HGB := hide hgb_
  clear hga_ hgb_
  rw [prodS_ok (word_take ho hkl), HGA.out] at HC1
  go_wp2_with fail
  refine (HC1.out _ HE.out).mono ?_
  rintro e w2 ⟨rfl, hE⟩
  have HE := hide (HE.out.trans hE)
  clear hE
  go_upto_region 5 with fail
  have HB8 : Hid (GrBox (w2.alloc (gobj ga)) w2.heap.size ga) := gr_new w2 _
  have HE := hide (HE.out.alloc (gobj ga))
  change Code.wp _ _ _ _ (w2.alloc (gobj ga))
  generalize w2.alloc (gobj ga) = W2 at HB8 HE ⊢
  generalize w2.heap.size = b8 at HB8 ⊢
  go_cut [10, 11] from 39 to 45 (fun x y V => ∃ b10, x = .pointer (some ⟨b10, 0, none⟩) ∧ y = .int .i64 0 ∧ Hid (Ext w V) ∧ Hid (GrBox V b10 gb) ∧ Hid (GrBox V b8 ga))
  case first =>
    by_cases hkk : k < l.length
    · obtain ⟨b, o, rfl, -⟩ := HA.out (by omega)
      have HC2 := hide (rdproduct_any m (l.drop k) (.slice (some ⟨b, o + k * 7, none⟩) (l.length - k) (c - k)) W2 (HTT.out.ext HE.out) (Row.ext (HU.out.ending hkk) HE.out))
      rw [prodS_ok (word_drop ho k), HGB.out] at HC2
      go_wp2_with fail
      refine HC2.out.mono ?_
      rintro e w3 ⟨rfl, hE⟩
      have HE := hide (HE.out.trans hE)
      have HB8 := hide (HB8.out.ext hE)
      clear hE
      go_wp2_with fail
      go_meet
      exact ⟨w3.heap.size, rfl, rfl, HE.out.alloc _, gr_new w3 _, HB8.out.alloc _⟩
    · have HDN : Hid (l.drop k = []) := List.drop_eq_nil_of_le (by omega)
      obtain rfl : k = l.length := by omega
      cases p with
      | none =>
        have HC2 := hide (rdproduct_any m (l.drop l.length) (.slice none 0 (c - l.length)) W2 (HTT.out.ext HE.out) (Row.ext (by rw [HDN.out]; exact Row.none none (by omega)) HE.out))
        rw [prodS_ok (word_drop ho l.length), HGB.out] at HC2
        go_wp2_with fail
        refine HC2.out.mono ?_
        rintro e w3 ⟨rfl, hE⟩
        have HE := hide (HE.out.trans hE)
        have HB8 := hide (HB8.out.ext hE)
        clear hE
        go_wp2_with fail
        go_meet
        exact ⟨w3.heap.size, rfl, rfl, HE.out.alloc _, gr_new w3 _, HB8.out.alloc _⟩
      | some q =>
        by_cases hcl : c = l.length
        · subst hcl
          have HC2 := hide (rdproduct_any m (l.drop l.length) (.slice (some q) 0 0) W2 (HTT.out.ext HE.out) (Row.ext (by rw [HDN.out]; exact Row.none (some q) (by omega)) HE.out))
          rw [prodS_ok (word_drop ho l.length), HGB.out] at HC2
          go_wp2_with fail
          refine HC2.out.mono ?_
          rintro e w3 ⟨rfl, hE⟩
          have HE := hide (HE.out.trans hE)
          have HB8 := hide (HB8.out.ext hE)
          clear hE
          go_wp2_with fail
          go_meet
          exact ⟨w3.heap.size, rfl, rfl, HE.out.alloc _, gr_new w3 _, HB8.out.alloc _⟩
        · skip
          have HC2 := hide (rdproduct_any m (l.drop l.length) (.slice (some (q.add (l.length * 7))) 0 (c - l.length)) W2 (HTT.out.ext HE.out) (Row.ext (by rw [HDN.out]; exact Row.none (some (q.add (l.length * 7))) (by omega)) HE.out))
          rw [prodS_ok (word_drop ho l.length), HGB.out] at HC2
          go_wp2_with fail
          refine HC2.out.mono ?_
          rintro e w3 ⟨rfl, hE⟩
          have HE := hide (HE.out.trans hE)
          have HB8 := hide (HB8.out.ext hE)
          clear hE
          go_wp2_with fail
          go_meet
          exact ⟨w3.heap.size, rfl, rfl, HE.out.alloc _, gr_new w3 _, HB8.out.alloc _⟩
  case rest =>
  obtain ⟨b10, rfl, rfl, HE, HB10, HB8⟩ := hcut
  have HC3 := hide (fun W (hE : Ext w W) => rdproduct_any m l (.slice p l.length c) W (HTT.out.ext hE) (HU.out.ext hE))
  rw [prodS_ok ho] at HC3
  have hwa : Wf ga m := HGA.out ▸ prod_wfL (word_take ho hkl)
  have hwb : Wf gb m := HGB.out ▸ prod_wfL (word_drop ho k)
  have hcomp : compG ga gb = prodL m l := by rw [← HGA.out, ← HGB.out]; exact prod_parts ho k
  have HC4 := hide (cmp_ok HTT.out (compS_wf hwa hwb))
  rw [hcomp] at HC4
  have HC5 := hide (fun W (hE : Ext w W) => rdobliged_any m (l.take k) (.slice p k c) W ((HU.out.begin hkl).ext hE))
  rw [oblS_ok (word_take ho hkl)] at HC5
  have HC6 := hide (fun W (hE : Ext w W) => rdobliged_any m l (.slice p l.length c) W (HU.out.ext hE))
  rw [oblS_ok ho] at HC6
  have HC7 := hide (fun W (hE : Ext w W) => rdfaulty_any m l (.slice p l.length c) W (HU.out.ext hE))
  rw [fauS_ok ho] at HC7
  obtain ⟨f1, f2, f3, f4, f5, f6, f7⟩ := obl_law ho hkl
  rw [f7] at HC7
  have hm5 := ho.n5
  generalize oblN m l = late at HC6 f1 f2 f3 f4
  generalize oblN m (l.take k) = early at HC5 f1 f5
  generalize (lastF l).toNat = faulty at HC7 f2 f3 f6
  generalize prodL m l = g12 at HC3 HC4
  clear ho f7 hwa hwb hcomp
  have H1 := hide f1
  have H2 := hide f2
  have H3 := hide f3
  clear f1 f2 f3
  go_wp2_with fail
  refine (HC3.out _ HE.out).mono ?_
  rintro e w4 ⟨rfl, hE⟩
  have HE := hide (HE.out.trans hE)
  have HB8 := hide (HB8.out.ext hE)
  have HB10 := hide (HB10.out.ext hE)
  clear hE
  go_upto_region 7 with fail
  have HB12 : Hid (GrBox (w4.alloc (gobj g12)) w4.heap.size g12) := gr_new w4 _
  have HB8 := hide (HB8.out.alloc (gobj g12))
  have HB10 := hide (HB10.out.alloc (gobj g12))
  have HE := hide (HE.out.alloc (gobj g12))
  change Code.wp _ _ _ _ (w4.alloc (gobj g12))
  generalize w4.alloc (gobj g12) = W4 at HB8 HB10 HB12 HE ⊢
  generalize w4.heap.size = b12 at HB12 ⊢
  obtain ⟨c0, c1, c2, c3, c4, c5, cz⟩ := HB8.out.cells
  obtain ⟨d0, d1, d2, d3, d4, d5, dz⟩ := HB10.out.cells
  go_wp2_with fail
  clear c0 c1 c2 c3 c4 c5 cz d0 d1 d2 d3 d4 d5 dz
  refine (HC4.out _ HE.out).mono ?_
  rintro e w5 ⟨rfl, hE⟩
  have HE := hide (HE.out.trans hE)
  have HB12 := hide (HB12.out.ext hE)
  clear hE
  go_upto_region 8 with fail
  have HB14 : Hid (GrBox (w5.alloc (gobj g12)) w5.heap.size g12) := gr_new w5 _
  have HB12 := hide (HB12.out.alloc (gobj g12))
  have HE := hide (HE.out.alloc (gobj g12))
  change Code.wp _ _ _ _ (w5.alloc (gobj g12))
  generalize w5.alloc (gobj g12) = W5 at HB12 HB14 HE ⊢
  generalize w5.heap.size = b14 at HB14 ⊢
  obtain ⟨c0, c1, c2, c3, c4, c5, cz⟩ := HB12.out.cells
  obtain ⟨d0, d1, d2, d3, d4, d5, dz⟩ := HB14.out.cells
  have hne := neqg_rd g12
  go_wp2_with fail
  clear c0 c1 c2 c3 c4 c5 cz d0 d1 d2 d3 d4 d5 dz hne
  refine (HC5.out _ HE.out).mono ?_
  rintro e w6 ⟨rfl, hE⟩
  have HE := hide (HE.out.trans hE)
  clear hE
  go_wp2_with fail
  refine (HC6.out _ HE.out).mono ?_
  rintro e w7 ⟨rfl, hE⟩
  have HE := hide (HE.out.trans hE)
  clear hE
  go_wp2_with fail
  refine (HC7.out _ HE.out).mono ?_
  rintro e w8 ⟨rfl, hE⟩
  have HE := hide (HE.out.trans hE)
  clear hE
  go_upto_region 13 with fail
  clear hcm hc hlen
  obtain ⟨y, hsh, hy1, hy32, han, ha2, ho2⟩ := join_bits hm5 H1.out H2.out H3.out f4 f5 f6
  clear H1 H2 H3 f4 f5 f6
  have hyI : (y : Int) ≤ 32 := by omega
  have hyI1 : (1 : Int) ≤ y := by omega
  go_wp2_with fail
  refine (HAW.out _ HE.out).mono ?_
  rintro e w9 ⟨rfl, hE⟩
  have HE := hide (HE.out.trans hE)
  clear hE
  go_wp2_with fail
  go_ret
  exact ⟨rfl, HE.out⟩
end Go.Proofs.YtfnhjalnbmnlaaaDoor
