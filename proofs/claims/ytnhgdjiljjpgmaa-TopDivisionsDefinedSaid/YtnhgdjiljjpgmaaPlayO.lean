/-
  The top law's playOmission.
  Conditions: as the theorem states.
-/
import Derived.Test.YtnhgdjiljjpgmaaPlayW
namespace Go.Proofs.Ytnhgdjiljjpgmaa
open Go.RowKit
attribute [local go_sem] Oper.semAt_some

/-- What a missing message adds. -/
def putO (a1 a2 : Bool) (sh p q : Nat) : Nat := if a2 = true then (if a1 = true then sh ||| 2 ^ q else sh) ||| 2 ^ p else if a1 = true then sh ||| 2 ^ q else sh
theorem put_one {sh q x : Nat} (hsh : sh < 32) (hq : q < 5) (hx : x < 5) : sh ||| 2 ^ q < 32 ∧ bit (sh ||| 2 ^ q) x = (bit sh x || decide (x = q)) := by
  refine ⟨Nat.or_lt_two_pow (n := 5) hsh (pow5_lt hq), ?_⟩
  show (sh ||| 2 ^ q).testBit x = _
  rw [Nat.testBit_or]
  show (bit sh x || bit (2 ^ q) x) = _
  rw [pow_bit hq hx]
theorem ShP.put {n : Nat} {r : Rd} {b : Nat} {sd rc a1 a2 : Bool} {p q sh : Nat} (hn : n ≤ 5) (hp : p < n) (hq : q < n) (h : ShP n r b sd rc p q sh) (ha : ∀ x, omAdd r b sd rc p q x = ((a1 && q == x) || (a2 && p == x))) : ShP n r b sd rc p (q + 1) (putO a1 a2 sh p q) := by
  have h1 : ∀ x, x < 5 → (if a1 = true then sh ||| 2 ^ q else sh) < 32 ∧ bit (if a1 = true then sh ||| 2 ^ q else sh) x = (bit sh x || (a1 && decide (x = q))) := fun x hx => by
    cases a1 with
    | true => simpa using put_one h.1 (show q < 5 by omega) hx
    | false => exact ⟨h.1, by simp⟩
  have h2 : ∀ x, x < 5 → putO a1 a2 sh p q < 32 ∧ bit (putO a1 a2 sh p q) x = ((bit sh x || (a1 && decide (x = q))) || (a2 && decide (x = p))) := fun x hx => by
    obtain ⟨k1, k2⟩ := h1 x hx
    unfold putO
    cases a2 with
    | true =>
      obtain ⟨k3, k4⟩ := put_one k1 (show p < 5 by omega) hx
      exact ⟨by simpa using k3, by simp only [if_true, Bool.true_and]; rw [k4, k2]⟩
    | false => exact ⟨by simpa using k1, by simpa using k2⟩
  refine h.add (h2 0 (by decide)).1 fun x hx => ?_
  rw [(h2 x (by omega)).2, ha x]
  simp only [Bool.or_eq_true, Bool.and_eq_true, decide_eq_true_eq, beq_iff_eq]
  constructor
  · rintro ((k | ⟨k1, k2⟩) | ⟨k1, k2⟩)
    · exact .inl k
    · exact .inr (.inl ⟨k1, k2.symm⟩)
    · exact .inr (.inr ⟨k1, k2.symm⟩)
  · rintro (k | ⟨k1, k2⟩ | ⟨k1, k2⟩)
    · exact .inl (.inl k)
    · exact .inl (.inr ⟨k1, k2.symm⟩)
    · exact .inr ⟨k1, k2.symm⟩
set_option maxRecDepth 16000 in
set_option maxHeartbeats 4000000 in
theorem pplayO_any {n b f : Nat} {r : Rd} {sd rc : Bool} (hsr : sd = true ∨ rc = true) (hn : n = 2 ∨ n = 3) (hr : RdN n r) (hbb : b < 32) (w : World) :
    Calls Try.prog 13 #[r.v, .int .i64 b, .int .i64 f, .bool sd, .bool rc] w fun e w' => e = .returned (.bool (playO n r b f sd rc)) ∧ Ext w w' := by
  obtain ⟨o, ho, ho2⟩ := hr.f
  have h32 : 2 ^ n ≤ 32 := pow32_le hr.wf.n5
  have ho32 : o < 32 := by omega
  have HON := hide (fun W => sones_any o ho32 W)
  have HPM := hide (fun p q (hp : p < 5) (hq : q < 5) W => pmiss_any (gs_of hr.wf) hp hq W)
  have hwz : IntKind.u64.wrap (o : Int) = (o : Int) := by rw [IntKind.wrap_u64]; omega
  obtain ⟨W1, hW1⟩ : ∃ W1, w.alloc (.cells #[.int .i64 r.g.n, .int .i64 r.g.h0, .int .i64 r.g.h1, .int .i64 r.g.h2, .int .i64 r.g.h3, .int .i64 r.g.h4, .int .i64 r.f] 38) = W1 := ⟨_, rfl⟩
  have HB : Hid (RB W1 w.heap.size r) := by show RB _ _ _; rw [← hW1]; exact heap_alloc_new w _
  have HE : Hid (Ext w W1) := by show Ext _ _; rw [← hW1]; exact (Ext.refl w).alloc _
  have HW := hide hW1
  have HRN := hide hr
  have HN := hide hr.wf.n_eq
  have HO := hide ho
  have c0 : W1.cell? ⟨w.heap.size, 0, none⟩ = some (.int .i64 (n : Int)) := by rw [← hr.wf.n_eq]; exact cells_at HB.out 0
  have c6 : W1.cell? ⟨w.heap.size, 6, none⟩ = some (.int .i64 (o : Int)) := by rw [← ho]; exact cells_at HB.out 6
  have cz := lt_of_heap HB.out
  clear hr ho hW1
  by_cases hfe : sizeN o ≤ f
  case neg =>
    have HR : Hid (playO n r b f sd rc = false) := by show _ = _; unfold playO; rw [HO.out, show ((o : Nat) : Int).toNat = o from rfl, decide_eq_false hfe, Bool.false_and]
    have hd : decide ((f : Int) < ((sizeN o : Nat) : Int)) = true := decide_eq_true (by omega)
    have hd2 : decide (f < sizeN o) = true := decide_eq_true (by omega)
    generalize playO n r b f sd rc = res at HR ⊢
    clear hfe
    go_enter Try.func13, Try.ntmps13
    go_upto_region 1 with fail
    rw [HW.out]
    go_wp2_with (go_at_call 36; refine (HON.out _).mono ?_; rintro e w' ⟨rfl, hww⟩; replace hww := hww.symm; subst hww)
    go_ret
    exact ⟨ret_bool HR.out.symm, HE.out⟩
  case pos =>
  have hd : decide ((f : Int) < ((sizeN o : Nat) : Int)) = false := decide_eq_false (by omega)
  have hd2 : decide (f < sizeN o) = false := decide_eq_false (by omega)
  have HNO := hide (fun p q (hp : p < n) (hq : q < n) h => playO_no (b := b) (f := f) (r := r) (sd := sd) (rc := rc) hp hq h)
  have HEND := hide (fun sh hok hsh => playO_end (b := b) (f := f) (sh := sh) (sd := sd) (rc := rc) HRN.out HO.out hfe hok hsh)
  generalize playO n r b f sd rc = res at HNO HEND ⊢
  have HFE := hide hfe
  clear hfe
  go_enter Try.func13, Try.ntmps13
  go_upto_region 1 with fail
  rw [HW.out]
  go_wp2_with (go_at_call 36; refine (HON.out _).mono ?_; rintro e w' ⟨rfl, hww⟩; replace hww := hww.symm; subst hww)
  clear hwz hd hd2
  have HE0 : Hid (Ext W1 W1) := Ext.refl W1
  go_loopw [11, 26] (fun us x V => ∃ i sN : Nat, i ≤ n ∧ x = .int .i64 i ∧ us = .int .i64 sN ∧ Hid (Ext W1 V) ∧ Hid (OkP n r sd rc i 0) ∧ Hid (ShP n r b sd rc i 0 sN)) (fun _ x _ => n - (intOf x).toNat)
  case atStart => exact ⟨0, b, Nat.zero_le _, rfl, rfl, HE0, OkP.start, ShP.start hbb⟩
  case round =>
    clear HE0
    obtain ⟨i, sN, hi, rfl, rfl, HE1, HOK, HSH⟩ := hrel
    have d0 := (HE1.out.cell (p := ⟨w.heap.size, 0, none⟩) cz).trans c0
    have d6 := (HE1.out.cell (p := ⟨w.heap.size, 6, none⟩) cz).trans c6
    have dz := Nat.lt_of_lt_of_le cz HE1.out.size
    by_cases hlt : i < n
    · have hlI : (i : Int) < (n : Int) := by omega
      go_upto_region 8 with fail
      obtain ⟨wa, hwa⟩ : ∃ wa, wa = wr := ⟨_, rfl⟩
      subst hwa
      clear d0 d6 dz
      go_loopw [11, 32] (fun us x V => ∃ q sM : Nat, q ≤ n ∧ x = .int .i64 q ∧ us = .int .i64 sM ∧ Hid (Ext W1 V) ∧ Hid (OkP n r sd rc i q) ∧ Hid (ShP n r b sd rc i q sM)) (fun _ x _ => n - (intOf x).toNat)
      case atStart => exact ⟨0, sN, Nat.zero_le _, rfl, rfl, HE1, HOK, HSH⟩
      case round =>
        clear HE1 HOK HSH
        obtain ⟨q, sM, hq, rfl, rfl, HE2, HOK2, HSH2⟩ := hrel
        by_cases hltq : q < n
        · have hc := HPM.out i q (by omega) (by omega)
          have hlqI : (q : Int) < (n : Int) := by omega
          have dz := Nat.lt_of_lt_of_le cz HE2.out.size
          have x0 : wr.cell? ⟨w.heap.size, 0, none⟩ = some (.int .i64 r.g.n) := (HE2.out.cell (p := ⟨w.heap.size, 0, none⟩) cz).trans (cells_at HB.out 0)
          have x1 : wr.cell? ⟨w.heap.size, 1, none⟩ = some (.int .i64 r.g.h0) := (HE2.out.cell (p := ⟨w.heap.size, 1, none⟩) cz).trans (cells_at HB.out 1)
          have x2 : wr.cell? ⟨w.heap.size, 2, none⟩ = some (.int .i64 r.g.h1) := (HE2.out.cell (p := ⟨w.heap.size, 2, none⟩) cz).trans (cells_at HB.out 2)
          have x3 : wr.cell? ⟨w.heap.size, 3, none⟩ = some (.int .i64 r.g.h2) := (HE2.out.cell (p := ⟨w.heap.size, 3, none⟩) cz).trans (cells_at HB.out 3)
          have x4 : wr.cell? ⟨w.heap.size, 4, none⟩ = some (.int .i64 r.g.h3) := (HE2.out.cell (p := ⟨w.heap.size, 4, none⟩) cz).trans (cells_at HB.out 4)
          have x5 : wr.cell? ⟨w.heap.size, 5, none⟩ = some (.int .i64 r.g.h4) := (HE2.out.cell (p := ⟨w.heap.size, 5, none⟩) cz).trans (cells_at HB.out 5)
          cases hm : hb r.g i q with
          | true =>
            rw [hm] at hc
            have HY := hide (HOK2.out.step (q := q) (by unfold omOk; rw [hm]; rfl))
            have HS := hide (HSH2.out.same hm)
            have HC := hide hc
            clear hc hm
            go_wp2_with fail
            refine (HC.out _).mono ?_
            rintro e w2 ⟨rfl, E2⟩
            have HE3 := hide (HE2.out.trans E2)
            clear E2 x0 x1 x2 x3 x4 x5 dz
            go_wp2_with fail
            go_roundw
            case rel => exact ⟨q + 1, sM, by omega, by go_num, rfl, HE3, HY, HS⟩
            case measure => simp [intOf]; omega
          | false =>
            rw [hm] at hc
            have HOKV : Hid (omOk n r sd rc i q = ((sd && bit o q) || (rc && bit o i))) := by show _ = _; unfold omOk; rw [hm, HO.out]; rfl
            have HADV : Hid (∀ x, omAdd r b sd rc i q x = ((sd && bit o q && (!rc || !bit b i) && q == x) || (rc && bit o i && (!sd || !bit b q) && i == x))) := fun x => by unfold omAdd; rw [hm, HO.out]; rfl
            have HC := hide hc
            clear hc hm
            go_wp2_with fail
            refine (HC.out _).mono ?_
            rintro e w2 ⟨rfl, E2⟩
            have HE3 := hide (HE2.out.trans E2)
            clear E2 x0 x1 x2 x3 x4 x5 dz
            have d6 : w2.cell? ⟨w.heap.size, 6, none⟩ = some (.int .i64 (o : Int)) := (HE3.out.cell (p := ⟨w.heap.size, 6, none⟩) cz).trans c6
            have dz := Nat.lt_of_lt_of_le cz HE3.out.size
            have b1 := bit_run (x := o) (p := q) ho32 (by omega)
            have b2 := bit_run (x := o) (p := i) ho32 (by omega)
            have b3 := bit_run (x := b) (p := i) hbb (by omega)
            have b4 := bit_run (x := b) (p := q) hbb (by omega)
            have pq := pow_run (p := q) (by omega)
            have pi := pow_run (p := i) (by omega)
            have hi64 : (i : Int) < 64 := by omega
            have hq64 : (q : Int) < 64 := by omega
            have cq : ((2 ^ q : Nat) : Int) = (2 : Int) ^ q := by simp
            have ci : ((2 ^ i : Nat) : Int) = (2 : Int) ^ i := by simp
            have r1 := or_run HSH2.out.1 (pow5_lt (p := q) (by omega))
            have r2 := or_run HSH2.out.1 (pow5_lt (p := i) (by omega))
            have r3 := or_run (put_one HSH2.out.1 (show q < 5 by omega) (show 0 < 5 by decide)).1 (pow5_lt (p := i) (by omega))
            rw [cq] at r1
            rw [ci] at r2 r3
            clear cq ci
            have HNF := hide (fun h => HNO.out i q hlt hltq h)
            have HOKS := hide (fun h => HOK2.out.step (q := q) h)
            have HSHS := hide (fun a1 a2 h => HSH2.out.put (a1 := a1) (a2 := a2) (by omega) hlt hltq h)
            generalize omOk n r sd rc i q = ok at HOKV HNF HOKS
            generalize h1 : bit o q = t1 at b1 HOKV HADV
            generalize h2 : bit o i = t2 at b2 HOKV HADV
            generalize h3 : bit b i = t3 at b3 HADV
            generalize h4 : bit b q = t4 at b4 HADV
            clear h1 h2 h3 h4
            go_upto_region 11 with fail
            cases sd <;> cases rc
            case false.false => rcases hsr with h | h <;> cases h
            all_goals
              cases t1 <;> cases t2
              all_goals
                refine wp_region_ext (by kernel_rfl) (by kernel_rfl) ?_
                repeat (go_big_quiet_step (fail))
                refine wpQuiet_nil ?_
                rintro w3 ⟨⟨_, E3⟩, rfl⟩
                have HE4 := hide (HE3.out.trans E3)
                clear E3 d6 dz
                cases t3 <;> cases t4
                all_goals
                  go_wp2_with fail
                  first
                    | (go_ret
                       exact ⟨ret_bool (HNF.out HOKV.out).symm, HE.out.trans HE4.out⟩)
                    | (go_roundw
                       case rel => exact ⟨q + 1, _, by omega, by go_num, rfl, HE4, HOKS.out HOKV.out, HSHS.out _ _ HADV.out⟩
                       case measure => simp [intOf]; omega)
        · obtain rfl : q = n := by omega
          have HY := hide HOK2.out.next
          have HS := hide HSH2.out.next
          go_wp2_with fail
          go_roundw
          case rel => exact ⟨i + 1, sM, by omega, by go_num, rfl, HE2, HY, HS⟩
          case measure => simp [intOf]; omega
    · obtain rfl : i = n := by omega
      have k1 := andNot_run ho32 HSH.out.1
      have HFIN := hide (HEND.out sN HOK.out HSH.out)
      have hx : decide (andNot o sN = 0) = decide (((andNot o sN : Nat) : Int) = 0) := decide_eq_decide.2 (by omega)
      rw [hx] at HFIN
      generalize andNot o sN = m at k1 HFIN
      clear hx
      go_wp2_with fail
      go_ret
      exact ⟨ret_bool HFIN.out.symm, HE.out.trans HE1.out⟩
end Go.Proofs.Ytnhgdjiljjpgmaa
