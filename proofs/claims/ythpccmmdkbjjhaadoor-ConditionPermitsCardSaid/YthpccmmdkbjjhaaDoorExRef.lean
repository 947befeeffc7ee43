/-
  The reference's evaluation of expressions (roundtableref07.flag, at, two, count, Value).
  Conditions: as each theorem states.
-/
import Derived.Test.YthpccmmdkbjjhaaDoorExVal
import Derived.Test.YthpccmmdkbjjhaaDoorExChk
import Derived.Test.YthpccmmdkbjjhaaDoorOwned
namespace Go.Proofs.YthpccmmdkbjjhaaDoor
open Go.RowKit

/-- How a scene lies. -/
def ScAt (w : World) (u : Value) (s : Sc) (vars : List Int) : Prop :=
  ∃ si so sv, u = .agg #[.int .i64 s.n, si, so, .int .i64 s.h.h0, .int .i64 s.h.h1, .int .i64 s.h.h2, .int .i64 s.h.h3, .int .i64 s.h.h4, sv] ∧ Row icells 1 w si s.inp ∧ Row icells 1 w so s.out ∧ Row icells 1 w sv vars
theorem ScAt.ext {w W : World} {u : Value} {s : Sc} {vars : List Int} (h : ScAt w u s vars) (hE : Ext w W) : ScAt W u s vars := by
  obtain ⟨si, so, sv, hu, h1, h2, h3⟩ := h
  exact ⟨si, so, sv, hu, h1.ext hE, h2.ext hE, h3.ext hE⟩

theorem rflag_any (b : Bool) (w : World) : Calls Tryd.prog 135 #[.bool b] w fun e' w' => e' = .returned (.int .i64 (flag b)) ∧ w' = w := by
  cases b
  all_goals
    go_enter Tryd.func135, Tryd.ntmps135
    go_wp2
    go_ret
    exact ⟨rfl, rfl⟩
theorem ptruth_any (b : Bool) (w : World) : Calls Tryd.prog 130 #[.bool b] w fun e' w' => e' = .returned (.int .i64 (flag b)) ∧ w' = w := by
  cases b
  all_goals
    go_enter Tryd.func130, Tryd.ntmps130
    go_wp2
    go_ret
    exact ⟨rfl, rfl⟩
theorem rat_any (l : List Int) (v : Value) (p n : Int) (w : World) (hl : Row icells 1 w v l) :
    Calls Tryd.prog 137 #[v, .int .i64 p, .int .i64 n] w fun e' w' => e' = .returned (.int .i64 (atS l p n)) ∧ w' = w := by
  obtain ⟨q, c, rfl, hc, hlen, hat⟩ := hl.int_all
  clear hl
  generalize hres : atS l p n = res
  unfold atS at hres
  by_cases h1 : p < 0
  · rw [if_pos (.inl h1)] at hres
    have HR := hide hres
    clear hres
    go_enter Tryd.func137, Tryd.ntmps137
    go_wp2
    go_ret
    exact ⟨ret_int HR.out, rfl⟩
  by_cases h2 : n ≤ p
  · rw [if_pos (.inr (.inl h2))] at hres
    have HR := hide hres
    clear hres
    go_enter Tryd.func137, Tryd.ntmps137
    go_wp2
    go_ret
    exact ⟨ret_int HR.out, rfl⟩
  by_cases h3 : (l.length : Int) ≤ p
  · rw [if_pos (.inr (.inr h3))] at hres
    have HR := hide hres
    clear hres
    go_enter Tryd.func137, Tryd.ntmps137
    go_wp2
    go_ret
    exact ⟨ret_int HR.out, rfl⟩
  rw [if_neg (by omega)] at hres
  obtain ⟨k, rfl⟩ := Int.eq_ofNat_of_zero_le (show 0 ≤ p by omega)
  rw [Int.toNat_natCast] at hres
  obtain ⟨b, o, rfl, hb, hcell⟩ := hat (by omega)
  have hc0 := hcell k (by omega) w (Ext.refl w)
  rw [hres] at hc0
  clear hres hat hcell
  go_enter Tryd.func137, Tryd.ntmps137
  go_wp2
  go_ret
  exact ⟨rfl, rfl⟩
/-- The bit of a row of a scene. -/
theorem shr_bit (h : Int) (b : Nat) (h0 : 0 ≤ h) (h1 : h ≤ 1048576) (_hb : b < 5) : (bits .and .i64 (h / 2 ^ b) 1 == 1) = has h b := by
  rw [and_one (Int.ediv_nonneg h0 (Int.le_of_lt (Int.pow_pos (by decide)))) (Int.le_trans (Int.ediv_le_self _ h0) (by omega))]
  rfl
set_option maxHeartbeats 1000000 in
theorem rtwo_any (s : Sc) (hs : s.ok) (op a b : Int) (u : Value) (vars : List Int) (w : World) (h0 : 4 ≤ op) (h1 : op ≤ 11) (ha : -1000000000 ≤ a ∧ a ≤ 1000000000) (hb : -1000000000 ≤ b ∧ b ≤ 1000000000) (hm : op = 10 → 0 ≤ a ∧ a ≤ 1 ∧ 0 ≤ b ∧ b ≤ 1) (hu : ScAt w u s vars) :
    Calls Tryd.prog 138 #[.int .i64 op, .int .i64 a, .int .i64 b, u] w fun e' w' => e' = .returned (.int .i64 (twoS s op a b)) ∧ Ext w w' := by
  obtain ⟨si, so, sv, rfl, hi, ho, hv⟩ := hu
  obtain ⟨qi, ci, rfl, -⟩ := hi.int_all
  obtain ⟨qo, co, rfl, -⟩ := ho.int_all
  obtain ⟨qv, cv, rfl, -⟩ := hv.int_all
  clear hi ho hv
  generalize hres : twoS s op a b = res
  unfold twoS at hres
  have HF := hide (fun x => rflag_any x)
  obtain ⟨s1, s2, -, -, s5⟩ := hs
  have hE0 := (Ext.refl w).alloc (.cells #[.int .i64 s.n, .slice qi s.inp.length ci, .slice qo s.out.length co, .int .i64 s.h.h0, .int .i64 s.h.h1, .int .i64 s.h.h2, .int .i64 s.h.h3, .int .i64 s.h.h4, .slice qv vars.length cv] 107)
  have HE := hide hE0
  clear hE0
  rcases (show op = 4 ∨ op = 5 ∨ op = 6 ∨ op = 7 ∨ op = 8 ∨ op = 9 ∨ op = 10 ∨ op = 11 by omega) with rfl | rfl | rfl | rfl | rfl | rfl | rfl | rfl
  · rw [if_pos rfl] at hres
    by_cases b1 : a < 0
    · have hbs : bitS s a b = false := by unfold bitS procS; rw [decide_eq_false (by omega)]; simp
      rw [hbs] at hres
      have HR := hide hres
      clear hres hbs
      go_enter Tryd.func138, Tryd.ntmps138
      go_wp2_with fail
      refine (HF.out _ _).mono ?_
      rintro e' w1 ⟨rfl, rfl⟩
      go_wp2_with fail
      go_ret
      exact ⟨ret_int HR.out, HE.out⟩
    by_cases b2 : (s.n : Int) ≤ a
    · have hbs : bitS s a b = false := by unfold bitS procS; rw [decide_eq_false (p := a < (s.n : Int)) (by omega)]; simp
      rw [hbs] at hres
      have HR := hide hres
      have b2' : decide (a < (s.n : Int)) = false := decide_eq_false (by omega)
      clear hres hbs
      go_enter Tryd.func138, Tryd.ntmps138
      go_wp2_with fail
      refine (HF.out _ _).mono ?_
      rintro e' w1 ⟨rfl, rfl⟩
      go_wp2_with fail
      go_ret
      exact ⟨ret_int HR.out, HE.out⟩
    have b2' : a < (s.n : Int) := by omega
    by_cases b3 : b < 0
    · have hbs : bitS s a b = false := by unfold bitS procS; rw [decide_eq_false (p := 0 ≤ b) (by omega)]; simp
      rw [hbs] at hres
      have HR := hide hres
      clear hres hbs
      go_enter Tryd.func138, Tryd.ntmps138
      go_wp2_with fail
      refine (HF.out _ _).mono ?_
      rintro e' w1 ⟨rfl, rfl⟩
      go_wp2_with fail
      go_ret
      exact ⟨ret_int HR.out, HE.out⟩
    by_cases b4 : (s.n : Int) ≤ b
    · have hbs : bitS s a b = false := by unfold bitS procS; rw [decide_eq_false (p := b < (s.n : Int)) (by omega)]; simp
      rw [hbs] at hres
      have HR := hide hres
      have b4' : decide (b < (s.n : Int)) = false := decide_eq_false (by omega)
      clear hres hbs
      go_enter Tryd.func138, Tryd.ntmps138
      go_wp2_with fail
      refine (HF.out _ _).mono ?_
      rintro e' w1 ⟨rfl, rfl⟩
      go_wp2_with fail
      go_ret
      exact ⟨ret_int HR.out, HE.out⟩
    have b4' : b < (s.n : Int) := by omega
    obtain ⟨k, rfl⟩ := Int.eq_ofNat_of_zero_le (show 0 ≤ a by omega)
    obtain ⟨m, rfl⟩ := Int.eq_ofNat_of_zero_le (show 0 ≤ b by omega)
    have hbs : bitS s k m = has (s.h.h k) m := by
      unfold bitS procS
      rw [decide_eq_true (by omega), decide_eq_true b2', decide_eq_true (by omega), decide_eq_true b4']
      simp
    rw [hbs] at hres
    have HR := hide hres
    have hk5 : k < 5 := by omega
    have hm5 : m < 5 := by omega
    have hh := s5 k hk5
    have hsb := shr_bit (s.h.h k) m hh.1 hh.2 hm5
    have hcl : (w.alloc (.cells #[.int .i64 s.n, .slice qi s.inp.length ci, .slice qo s.out.length co, .int .i64 s.h.h0, .int .i64 s.h.h1, .int .i64 s.h.h2, .int .i64 s.h.h3, .int .i64 s.h.h4, .slice qv vars.length cv] 107)).cell? ⟨w.heap.size, 3 + k, none⟩ = some (.int .i64 (s.h.h k)) := by
      rw [cell_new]
      obtain rfl | rfl | rfl | rfl | rfl : k = 0 ∨ k = 1 ∨ k = 2 ∨ k = 3 ∨ k = 4 := by omega
      all_goals rfl
    clear hres hbs s5
    generalize has (s.h.h k) m = bb at HR hsb
    generalize s.h.h k = hk at hcl hsb hh
    go_enter Tryd.func138, Tryd.ntmps138
    go_wp2_with fail
    refine (HF.out _ _).mono ?_
    rintro e' w1 ⟨rfl, rfl⟩
    go_wp2_with fail
    go_ret
    exact ⟨ret_int HR.out, HE.out⟩
  · rw [if_neg (by decide), if_pos rfl] at hres
    have HR := hide hres
    clear hres
    go_enter Tryd.func138, Tryd.ntmps138
    go_wp2_with fail
    go_ret
    exact ⟨ret_int HR.out, HE.out⟩
  · rw [if_neg (by decide), if_neg (by decide), if_pos rfl] at hres
    have HR := hide hres
    clear hres
    go_enter Tryd.func138, Tryd.ntmps138
    go_wp2_with fail
    go_ret
    exact ⟨ret_int HR.out, HE.out⟩
  · rw [if_neg (by decide), if_neg (by decide), if_neg (by decide), if_pos rfl] at hres
    have HR := hide hres
    clear hres
    go_enter Tryd.func138, Tryd.ntmps138
    go_wp2_with fail
    refine (HF.out _ _).mono ?_
    rintro e' w1 ⟨rfl, rfl⟩
    go_wp2_with fail
    go_ret
    exact ⟨ret_int HR.out, HE.out⟩
  · rw [if_neg (by decide), if_neg (by decide), if_neg (by decide), if_neg (by decide), if_pos rfl] at hres
    have HR := hide hres
    clear hres
    go_enter Tryd.func138, Tryd.ntmps138
    go_wp2_with fail
    refine (HF.out _ _).mono ?_
    rintro e' w1 ⟨rfl, rfl⟩
    go_wp2_with fail
    go_ret
    exact ⟨ret_int HR.out, HE.out⟩
  · rw [if_neg (by decide), if_neg (by decide), if_neg (by decide), if_neg (by decide), if_neg (by decide), if_pos rfl] at hres
    have HR := hide hres
    clear hres
    go_enter Tryd.func138, Tryd.ntmps138
    go_wp2_with fail
    refine (HF.out _ _).mono ?_
    rintro e' w1 ⟨rfl, rfl⟩
    go_wp2_with fail
    go_ret
    exact ⟨ret_int HR.out, HE.out⟩
  · rw [if_neg (by decide), if_neg (by decide), if_neg (by decide), if_neg (by decide), if_neg (by decide), if_neg (by decide), if_pos rfl] at hres
    obtain ⟨m1, m2, m3, m4⟩ := hm rfl
    have hp := mul01 ⟨m1, m2⟩ ⟨m3, m4⟩
    have hwr : IntKind.i64.wrap (a * b) = a * b := by
      rcases (show a = 0 ∨ a = 1 by omega) with rfl | rfl <;> rcases (show b = 0 ∨ b = 1 by omega) with rfl | rfl <;> rfl
    have HR := hide hres
    clear hres hp
    go_enter Tryd.func138, Tryd.ntmps138
    go_wp2_with fail
    go_ret
    exact ⟨ret_int HR.out, HE.out⟩
  · rw [if_neg (by decide), if_neg (by decide), if_neg (by decide), if_neg (by decide), if_neg (by decide), if_neg (by decide), if_neg (by decide)] at hres
    have HR := hide hres
    clear hres
    go_enter Tryd.func138, Tryd.ntmps138
    go_wp2_with fail
    refine (HF.out _ _).mono ?_
    rintro e' w1 ⟨rfl, rfl⟩
    go_wp2_with fail
    go_ret
    exact ⟨ret_int HR.out, HE.out⟩
end Go.Proofs.YthpccmmdkbjjhaaDoor
