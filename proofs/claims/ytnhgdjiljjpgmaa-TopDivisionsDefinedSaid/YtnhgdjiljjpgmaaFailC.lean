/-
  The program's layer 17 (failure): the closures of the models.
  Conditions: as each theorem states.
-/
import Derived.Test.YtnhgdjiljjpgmaaFailJ
import Derived.Test.YtnhgdjiljjpgmaaFailI
namespace Go.Proofs.Ytnhgdjiljjpgmaa
open Go.RowKit
attribute [local go_sem] Oper.semAt_some

theorem bit_run_table : ((List.range 32).all fun x => (List.range 5).all fun p => decide (bits .and .i64 (((x : Nat) : Int) / 2 ^ p) 1 = if bit x p = true then 1 else 0)) = true := by decide +kernel
theorem bit_run {x p : Nat} (hx : x < 32) (hp : p < 5) : bits .and .i64 ((x : Int) / 2 ^ p) 1 = if bit x p = true then 1 else 0 := by
  have h := bit_run_table
  rw [List.all_eq_true] at h
  have h := h x (List.mem_range.2 hx)
  rw [List.all_eq_true] at h
  exact of_decide_eq_true (h p (List.mem_range.2 hp))
theorem pow_run {p : Nat} (hp : p < 5) : IntKind.i64.wrap (2 ^ p) = ((2 ^ p : Nat) : Int) := by
  obtain rfl | rfl | rfl | rfl | rfl : p = 0 ∨ p = 1 ∨ p = 2 ∨ p = 3 ∨ p = 4 := by omega
  all_goals decide +kernel
theorem pow5_lt {p : Nat} (hp : p < 5) : 2 ^ p < 32 := by
  obtain rfl | rfl | rfl | rfl | rfl : p = 0 ∨ p = 1 ∨ p = 2 ∨ p = 3 ∨ p = 4 := by omega
  all_goals decide
theorem full_lt32 {n : Nat} (h : n ≤ 5) : fullN n < 32 := Nat.lt_of_lt_of_le (full_lt n) (Nat.pow_le_pow_right (n := 2) (by omega) h)
/-- An iterator that yields the sets of a row. -/
def RowOk (V : World) (R : List Nat) (e : Ending) (V' : World) : Prop := ∃ gl gh low high, e = .returned (.func (.func 49) #[] #[.pointer (some ⟨gh, 0, none⟩), .pointer (some ⟨gl, 0, none⟩)]) ∧
    NBox V' gl (low : Nat) ∧ NBox V' gh (high : Nat) ∧ V.heap.size ≤ gl ∧ V.heap.size ≤ gh ∧ betwL low high = R ∧ low < 32 ∧ high < 32 ∧ Ext V V'
theorem enters_pcrash1 : ∀ args w, (callFunc 20 args).run Try.prog w = .ok (.enter 20 args) w := fun _ _ => by kernel_rfl
set_option maxRecDepth 16000 in
set_option maxHeartbeats 1000000 in
theorem pcrash1_any {n f p b o nb : Nat} (hn : n ≤ 5) (hp : p < n) (hb : b < 2 ^ n) (ho : o < 2 ^ n) (V : World) (hN : NBox V nb n) :
    Calls Try.prog 20 #[.int .i64 p, .int .i64 b, .int .i64 o, .pointer (some ⟨nb, 0, none⟩)] V (RowOk V ((crashM n f).rows p b o)) := by
  have h32 := pow32_le hn
  have hp5 : p < 5 := by omega
  have hbit := bit_run (x := o) (p := p) (by omega) hp5
  have hpw := pow_run hp5
  have hp64 : (p : Int) < 64 := by omega
  have c0 := hN.cell
  have z0 := lt_of_heap hN
  have hf := full_lt32 hn
  have h1 := andNot_run hf (show o < 32 by omega)
  have h2 := andNot_run hf (show b < 32 by omega)
  have HP := hide (pow5_lt hp5)
  have HA := hide (And.intro (andNot_lt hf (show o < 32 by omega)) (andNot_lt hf (show b < 32 by omega)))
  have HF := hide (pfull_any n hn)
  obtain ⟨x, hx⟩ : ∃ x, 2 ^ p = x := ⟨_, rfl⟩
  rw [hx] at HP hpw
  have HX := hide hx
  clear hx
  cases hc : bit o p with
  | true =>
    rw [hc] at hbit
    have HR : Hid ((crashM n f).rows p b o = betwL x x) := by show (if bit o p = true then _ else _) = _; rw [hc, if_pos rfl, HX.out]
    clear hc
    go_enter Try.func20, Try.ntmps20
    go_upto_region 2 with fail
    go_still_tail 4, (by kernel_rfl)
    change wpList _ _ _ _ _ V.drew
    have HE : Hid (Ext V V.drew) := (Ext.refl V).drew
    clear c0 z0
    generalize V.drew = V1 at HE ⊢
    go_wp2_with fail
    refine (pbetween_any x x V1).mono ?_
    rintro e V2 ⟨rfl, g1, g2, g3⟩
    have hsz := HE.out.size
    go_wp2_with fail
    go_ret
    exact ⟨_, _, _, _, rfl, g1, g2, hsz, by omega, HR.out.symm, HP.out, HP.out, HE.out.trans g3⟩
  | false =>
    rw [hc] at hbit
    have HR : Hid ((crashM n f).rows p b o = betwL (andNot (fullN n) o) (andNot (fullN n) b)) := by show (if bit o p = true then _ else _) = _; rw [hc]; rfl
    clear hc
    go_enter Try.func20, Try.ntmps20
    go_upto_region 3 with fail
    refine wp_region_still_tail 8 (by kernel_rfl) (by kernel_rfl) ?_
    simp only [List.take_succ_cons, List.take_zero, List.drop_succ_cons, List.drop_zero]
    still_step
    still_call (HF.out _)
    still_step
    still_step
    still_step
    still_call (HF.out _)
    still_step
    still_step
    refine wpStill_nil ?_
    change wpList _ _ _ _ _ V.drew
    have HE : Hid (Ext V V.drew) := (Ext.refl V).drew
    clear c0 z0
    generalize V.drew = V1 at HE ⊢
    go_wp2_with fail
    refine (pbetween_any (andNot (fullN n) o) (andNot (fullN n) b) V1).mono ?_
    rintro e V2 ⟨rfl, g1, g2, g3⟩
    have hsz := HE.out.size
    go_wp2_with fail
    go_ret
    exact ⟨_, _, _, _, rfl, g1, g2, hsz, by omega, HR.out.symm, HA.out.1, HA.out.2, HE.out.trans g3⟩
theorem enters_psend1 : ∀ args w, (callFunc 24 args).run Try.prog w = .ok (.enter 24 args) w := fun _ _ => by kernel_rfl
set_option maxRecDepth 16000 in
set_option maxHeartbeats 1000000 in
theorem psend1_any {n f p b o nb : Nat} (hn : n ≤ 5) (hp : p < n) (ho : o < 2 ^ n) (V : World) (hN : NBox V nb n) :
    Calls Try.prog 24 #[.int .i64 p, .int .i64 b, .int .i64 o, .pointer (some ⟨nb, 0, none⟩)] V (RowOk V ((sendM n f).rows p b o)) := by
  have h32 := pow32_le hn
  have hp5 : p < 5 := by omega
  have hpw := pow_run hp5
  have hp64 : (p : Int) < 64 := by omega
  have c0 := hN.cell
  have z0 := lt_of_heap hN
  have hf := full_lt32 hn
  have h1 := andNot_run hf (show o < 32 by omega)
  have hp32 := pow5_lt hp5
  have hA := andNot_lt hf (show o < 32 by omega)
  have h3 := or_run hA hp32
  have HB : Hid (andNot (fullN n) o ||| 2 ^ p < 32 ∧ fullN n < 32) := ⟨Nat.or_lt_two_pow (n := 5) hA hp32, hf⟩
  have HF := hide (pfull_any n hn)
  obtain ⟨x, hx⟩ : ∃ x, 2 ^ p = x := ⟨_, rfl⟩
  have HR : Hid ((sendM n f).rows p b o = betwL (andNot (fullN n) o ||| x) (fullN n)) := by show betwL (andNot (fullN n) o ||| 2 ^ p) (fullN n) = _; rw [hx]
  rw [hx] at HB hpw h3 hp32
  clear hx
  go_enter Try.func24, Try.ntmps24
  go_upto_region 1 with fail
  refine wp_region_still_tail 9 (by kernel_rfl) (by kernel_rfl) ?_
  simp only [List.take_succ_cons, List.take_zero, List.drop_succ_cons, List.drop_zero]
  still_step
  still_call (HF.out _)
  still_step
  still_step
  still_step
  still_step
  still_step
  still_step
  still_call (HF.out _)
  refine wpStill_nil ?_
  change wpList _ _ _ _ _ V.drew
  have HE : Hid (Ext V V.drew) := (Ext.refl V).drew
  clear c0 z0
  generalize V.drew = V1 at HE ⊢
  go_wp2_with fail
  refine (pbetween_any (andNot (fullN n) o ||| x) (fullN n) V1).mono ?_
  rintro e V2 ⟨rfl, g1, g2, g3⟩
  have hsz := HE.out.size
  go_wp2_with fail
  go_ret
  exact ⟨_, _, _, _, rfl, g1, g2, hsz, by omega, HR.out.symm, HB.out.1, HB.out.2, HE.out.trans g3⟩
set_option maxRecDepth 16000 in
set_option maxHeartbeats 1000000 in
theorem peach_any {n b o fk : Nat} {fb : Array Value} {ok : Nat → Bool} (w : World) (hn : n ≤ 5) (hb : b < 32) (ho : o < 32) (ek : ∀ args w, (callFunc fk args).run Try.prog w = .ok (.enter fk args) w)
    (hk : ∀ x V, x < n → Ext w V → Calls Try.prog fk (#[.int .i64 (x : Nat)] ++ fb) V fun e V' => e = .returned (.bool (ok x)) ∧ Ext V V') :
    Calls Try.prog 26 #[.int .i64 n, .int .i64 b, .int .i64 o, .func (.func fk) #[] fb] w fun e w' => e = .returned (.bool (eachN n b o ok)) ∧ Ext w w' := by
  have h1 := andNot_run ho hb
  have hm := andNot_lt ho hb
  have HK := hide hk
  have HV : Hid (eachN n b o ok = (List.range n).all fun x => !bit (andNot o b) x || ok x) := rfl
  clear hk
  generalize eachN n b o ok = res at HV ⊢
  generalize andNot o b = m at h1 hm HV
  go_enter Try.func26, Try.ntmps26
  go_wp2_with fail
  go_loopw [11] (fun v wr => ∃ i : Nat, i ≤ n ∧ v = .int .i64 i ∧ Hid (Ext w wr) ∧ Hid (∀ x, x < i → (!bit m x || ok x) = true)) (fun v _ => n - (intOf v).toNat)
  case atStart => exact ⟨0, Nat.zero_le _, rfl, Ext.refl w, fun x hx => absurd hx (Nat.not_lt_zero x)⟩
  case round =>
    obtain ⟨i, hi, rfl, HE, HL⟩ := hrel
    by_cases hlt : i < n
    · have hi64 : (i : Int) < 64 := by omega
      have hbit := bit_run (x := m) (p := i) hm (by omega)
      cases hc : bit m i with
      | false =>
        rw [hc] at hbit
        have HC := hide hc
        clear hc
        go_wp2_with fail
        go_round
        case rel => exact ⟨i + 1, by omega, by go_num, HE, fun x hx => by
          rcases Nat.lt_succ_iff_lt_or_eq.1 hx with h | rfl
          · exact HL.out x h
          · rw [HC.out]; rfl⟩
        case measure => simp [intOf]; omega
      | true =>
        rw [hc] at hbit
        have HC := hide hc
        clear hc
        go_wp2_with fail
        refine (HK.out i wr hlt HE.out).mono ?_
        rintro e w2 ⟨rfl, hE2⟩
        have HE2 := hide (HE.out.trans hE2)
        clear hE2
        cases hok : ok i with
        | false =>
          have HR : Hid (res = false) := by
            show res = false
            rw [HV.out, Bool.eq_false_iff]
            intro h
            have := List.all_eq_true.1 h i (List.mem_range.2 hlt)
            rw [HC.out, hok] at this
            cases this
          clear hok
          go_wp2_with fail
          go_ret
          exact ⟨by rw [HR.out]; rfl, HE2.out⟩
        | true =>
          have HOK := hide hok
          clear hok
          go_wp2_with fail
          go_round
          case rel => exact ⟨i + 1, by omega, by go_num, HE2, fun x hx => by
            rcases Nat.lt_succ_iff_lt_or_eq.1 hx with h | rfl
            · exact HL.out x h
            · rw [HOK.out, Bool.or_true]⟩
          case measure => simp [intOf]; omega
    · obtain rfl : i = n := by omega
      have HR : Hid (res = true) := by
        show res = true
        rw [HV.out, List.all_eq_true]
        exact fun x hx => HL.out x (List.mem_range.1 hx)
      go_wp2_with fail
      go_ret
      exact ⟨by rw [HR.out]; rfl, HE.out⟩
set_option maxRecDepth 16000 in
set_option maxHeartbeats 1000000 in
theorem punheard_any {n x : Nat} {g : Gr} (hn : n ≤ 5) (hx : x < 5) (hg : GS n g) (w : World) :
    Calls Try.prog 28 #[g.v, .int .i64 x] w fun e w' => e = .returned (.int .i64 (unheardN g n x : Nat)) ∧ Ext w w' := by
  have HGN := hide hg.1
  have HG := hide hg.2
  have HB : Hid (GrBox (w.alloc (.cells #[.int .i64 g.n, .int .i64 g.h0, .int .i64 g.h1, .int .i64 g.h2, .int .i64 g.h3, .int .i64 g.h4] 36)) w.heap.size g) := heap_alloc_new w _
  have HX := hide hx
  have hx64 : (x : Int) < 64 := by omega
  have HU : Hid (∀ i, i ≤ n → (List.range i).foldl (fun out p => if bit (g.h p).toNat x = true then out else out ||| 2 ^ p) 0 < 32) := fun i hi => (or_fold (fun p => bit (g.h p).toNat x) (List.range i) 0 0 (fun p hp => by have := List.mem_range.1 hp; omega) (by decide) (by decide)).1
  have HS : Hid (∀ i, (List.range (i + 1)).foldl (fun out p => if bit (g.h p).toNat x = true then out else out ||| 2 ^ p) 0 = if bit (g.h i).toNat x = true then (List.range i).foldl (fun out p => if bit (g.h p).toNat x = true then out else out ||| 2 ^ p) 0 else (List.range i).foldl (fun out p => if bit (g.h p).toNat x = true then out else out ||| 2 ^ p) 0 ||| 2 ^ i) := fun i => by
    rw [List.range_succ, List.foldl_append]; rfl
  have HV : Hid (unheardN g n x = (List.range n).foldl (fun out p => if bit (g.h p).toNat x = true then out else out ||| 2 ^ p) 0) := rfl
  have H0 : Hid ((List.range 0).foldl (fun out p => if bit (g.h p).toNat x = true then out else out ||| 2 ^ p) 0 = 0) := rfl
  have HE0 : Hid (Ext w (w.alloc (.cells #[.int .i64 g.n, .int .i64 g.h0, .int .i64 g.h1, .int .i64 g.h2, .int .i64 g.h3, .int .i64 g.h4] 36))) := (Ext.refl w).alloc _
  generalize hu : (fun i => (List.range i).foldl (fun out p => if bit (g.h p).toNat x = true then out else out ||| 2 ^ p) 0) = u
  have hu' : ∀ i, (List.range i).foldl (fun out p => if bit (g.h p).toNat x = true then out else out ||| 2 ^ p) 0 = u i := fun i => by rw [← hu]
  simp only [hu'] at HU HS HV H0
  clear hu hu' hg hx
  generalize unheardN g n x = res at HV ⊢
  go_enter Try.func28, Try.ntmps28
  go_wp2_with fail
  obtain ⟨w1, hw1⟩ : ∃ w1, w.alloc (.cells #[.int .i64 g.n, .int .i64 g.h0, .int .i64 g.h1, .int .i64 g.h2, .int .i64 g.h3, .int .i64 g.h4] 36) = w1 := ⟨_, rfl⟩
  rw [hw1] at HB HE0
  rw [hw1, HGN.out]
  clear hw1
  go_loopw [5, 9] (fun out v wr => ∃ i : Nat, i ≤ n ∧ v = .int .i64 i ∧ out = .int .i64 (u i : Nat) ∧ wr = w1) (fun _ v _ => n - (intOf v).toNat)
  case atStart => exact ⟨0, Nat.zero_le _, rfl, by rw [H0.out]; rfl, rfl⟩
  case round =>
    obtain ⟨i, hi, rfl, rfl, rfl⟩ := hrel
    by_cases hlt : i < n
    · have hi64 : (i : Int) < 64 := by omega
      have hi5 : (i : Int) < 5 := by omega
      obtain ⟨r0, -⟩ := HB.out.row (p := i) (by omega)
      obtain ⟨s, hs, hs32⟩ := HG.out i (by omega)
      rw [hs] at r0
      have gz := lt_of_heap HB.out
      have hbit := bit_run (x := s) (p := x) hs32 HX.out
      have hpw := pow_run (p := i) (by omega)
      have hp32 := pow5_lt (p := i) (by omega)
      have hor := or_run (HU.out i (by omega)) hp32
      have HSI := HS.out i
      rw [hs, Int.toNat_natCast] at HSI
      have HSJ := hide HSI
      clear HSI
      generalize u i = ui at hor HSJ
      generalize 2 ^ i = pi at hpw hor hp32 HSJ
      cases hc : bit s x with
      | true =>
        rw [hc] at hbit HSJ
        clear hc hor hpw
        go_wp2_with fail
        go_round
        case rel => exact ⟨i + 1, by omega, by go_num, by rw [HSJ.out]; rfl, trivial⟩
        case measure => simp [intOf]; omega
      | false =>
        rw [hc] at hbit HSJ
        clear hc
        go_wp2_with fail
        go_round
        case rel => exact ⟨i + 1, by omega, by go_num, by rw [HSJ.out]; rfl, trivial⟩
        case measure => simp [intOf]; omega
    · obtain rfl : i = n := by omega
      go_wp2_with fail
      go_ret
      exact ⟨by rw [HV.out]; rfl, HE0.out⟩
theorem enters_psend21 : ∀ args w, (callFunc 27 args).run Try.prog w = .ok (.enter 27 args) w := fun _ _ => by kernel_rfl
theorem enters_psend2 : ∀ args w, (callFunc 25 args).run Try.prog w = .ok (.enter 25 args) w := fun _ _ => by kernel_rfl
set_option maxRecDepth 16000 in
set_option maxHeartbeats 1000000 in
theorem psend21_any {n x bg : Nat} {g : Gr} (hn : n ≤ 5) (hx : x < n) (hg : GS n g) (w : World) (hB : GrBox w bg g) :
    Calls Try.prog 27 #[.int .i64 x, .pointer (some ⟨bg, 0, none⟩)] w fun e w' => e = .returned (.bool (decide (unheardN g n x ≠ 0))) ∧ Ext w w' := by
  have HU := hide (fun W => punheard_any hn (show x < 5 by omega) hg W)
  obtain ⟨g0, g1, g2, g3, g4, g5, zg⟩ := hB.cells
  have HX : Hid (decide (unheardN g n x ≠ 0) = (((unheardN g n x : Nat) : Int) != 0)) := by
    show _ = _
    by_cases h : unheardN g n x = 0 <;> simp [h]
  rw [HX.out]
  generalize unheardN g n x = u at HU ⊢
  clear hg hB HX hx hn
  go_enter Try.func27, Try.ntmps27
  go_wp2_with fail
  refine (HU.out w).mono ?_
  rintro e w2 ⟨rfl, hE⟩
  go_wp2_with fail
  go_ret
  exact ⟨rfl, hE⟩
set_option maxRecDepth 16000 in
set_option maxHeartbeats 1000000 in
theorem psend2_any {n f b o nb : Nat} {g : Gr} (hn : n ≤ 5) (hb : b < 2 ^ n) (ho : o < 2 ^ n) (hg : GS n g) (V : World) (hN : NBox V nb n) :
    Calls Try.prog 25 #[g.v, .int .i64 b, .int .i64 o, .pointer (some ⟨nb, 0, none⟩)] V fun e w' => e = .returned (.bool ((sendM n f).fits g b o)) ∧ Ext V w' := by
  have h32 := pow32_le hn
  have HK := hide (fun W bg x (hx : x < n) (h : GrBox W bg g) => psend21_any hn hx hg W h)
  obtain ⟨W1, hW1⟩ : ∃ W1, V.alloc (.cells #[.int .i64 g.n, .int .i64 g.h0, .int .i64 g.h1, .int .i64 g.h2, .int .i64 g.h3, .int .i64 g.h4] 36) = W1 := ⟨_, rfl⟩
  have HE1 : Hid (Ext V W1) := by show Ext _ _; rw [← hW1]; exact (Ext.refl V).alloc _
  have HG1 : Hid (GrBox W1 V.heap.size g) := by show _ = _; rw [← hW1]; exact heap_alloc_new V _
  have HW1 := hide hW1
  have HC := hide (fun W (hE : Ext W1 W) => peach_any (fb := #[.pointer (some ⟨V.heap.size, 0, none⟩)]) (ok := fun x => decide (unheardN g n x ≠ 0)) W hn (show b < 32 by omega) (show o < 32 by omega) enters_psend21 fun x V' hx hE' => HK.out V' V.heap.size x hx ((hE.trans hE').b.block _ (lt_of_heap HG1.out) |>.trans HG1.out))
  have HR : Hid ((sendM n f).fits g b o = eachN n b o fun x => decide (unheardN g n x ≠ 0)) := rfl
  rw [HR.out]
  generalize (eachN n b o fun x => decide (unheardN g n x ≠ 0)) = res at HC ⊢
  have c0 := hN.cell
  have z0 := lt_of_heap hN
  clear HR HK hg hN hW1 h32 ho hb hn
  go_enter Try.func25, Try.ntmps25
  go_wp2_with fail
  rw [HW1.out]
  refine (HC.out W1 (Ext.refl _)).mono ?_
  rintro e w2 ⟨rfl, hE⟩
  go_wp2_with fail
  go_ret
  exact ⟨rfl, HE1.out.trans hE⟩
/-- What the closures of Crash answer. -/
theorem crash_ask {n f b o nb : Nat} (hn : n ≤ 5) (hb : b < 2 ^ n) (ho : o < 2 ^ n) :
    MAsk n f b o 20 23 #[.pointer (some ⟨nb, 0, none⟩)] #[] (fun p => (crashM n f).rows p b o) (fun g => (crashM n f).fits g b o) (fun W => NBox W nb n) where
  n5 := hn
  er := enters_pcrash1
  ef := fun _ _ => by kernel_rfl
  rows := fun p V hp hN => pcrash1_any hn hp hb ho V hN
  fit := fun g V _ _ => by
    go_enter Try.func23, Try.ntmps23
    go_wp2_with fail
    go_ret
    exact ⟨rfl, (Ext.refl V).alloc _⟩
theorem send_ask {n f b o nb : Nat} (hn : n ≤ 5) (hb : b < 2 ^ n) (ho : o < 2 ^ n) :
    MAsk n f b o 24 25 #[.pointer (some ⟨nb, 0, none⟩)] #[.pointer (some ⟨nb, 0, none⟩)] (fun p => (sendM n f).rows p b o) (fun g => (sendM n f).fits g b o) (fun W => NBox W nb n) where
  n5 := hn
  er := enters_psend1
  ef := enters_psend2
  rows := fun _p V hp hN => psend1_any hn hp ho V hN
  fit := fun _g V hg hN => psend2_any hn hb ho hg V hN
end Go.Proofs.Ytnhgdjiljjpgmaa
