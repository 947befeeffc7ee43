/-
  The top law's functions on rounds: playMissing, playCrash, playOmission, playWord, playAwake09.
  Conditions: as each theorem states.
-/
import Derived.Test.YtnhgdjiljjpgmaaPlayL
import Derived.Test.YtnhgdjiljjpgmaaFailI
import Derived.Test.YtnhgdjiljjpgmaaFailBb
import Derived.Test.YtnhgdjiljjpgmaaCount
import Derived.Test.YtnhgdjiljjpgmaaStateP
import Derived.Test.YtnhgdjiljjpgmaaRWordP
import Derived.Deep.CutRange
namespace Go.Proofs.Ytnhgdjiljjpgmaa
open Go.RowKit
attribute [local go_sem] Oper.semAt_some

theorem gs_of {n : Nat} {g : Gr} (h : Wf g n) : GS n g := ⟨h.n_eq, fun p _ => ⟨g.r p, h.row p, by
  have := h.n5
  rcases Nat.lt_or_ge p n with hp | hp
  · have := h.lt p hp; have := pow32_le h.n5; omega
  · rw [h.out p hp]; decide⟩⟩
set_option maxRecDepth 16000 in
theorem pmiss_any {n p q : Nat} {g : Gr} (hg : GS n g) (hp : p < 5) (hq : q < 5) (w : World) :
    Calls Try.prog 16 #[g.v, .int .i64 p, .int .i64 q] w fun e w' => e = .returned (.bool (!hb g p q)) ∧ Ext w w' := by
  obtain ⟨s, hs, hs32⟩ := hg.2 p hp
  obtain ⟨W1, hW1⟩ : ∃ W1, w.alloc (.cells #[.int .i64 g.n, .int .i64 g.h0, .int .i64 g.h1, .int .i64 g.h2, .int .i64 g.h3, .int .i64 g.h4] 36) = W1 := ⟨_, rfl⟩
  have HB : GrBox W1 w.heap.size g := by rw [← hW1]; exact heap_alloc_new w _
  have HE : Hid (Ext w W1) := by show Ext _ _; rw [← hW1]; exact (Ext.refl w).alloc _
  have hbit := bit_run (x := s) (p := q) hs32 hq
  have hp5 : (p : Int) < 5 := by omega
  have hq64 : (q : Int) < 64 := by omega
  have HR : Hid (hb g p q = bit s q) := by show bit (g.h p).toNat q = _; rw [hs]; rfl
  rw [HR.out]
  obtain ⟨r0, -⟩ := HB.row hp
  rw [hs] at r0
  have gz := lt_of_heap HB
  have HW := hide hW1
  clear HB hg hs hs32 hW1 hp hq
  cases hc : bit s q
  all_goals
    rw [hc] at hbit
    clear hc
    go_enter Try.func16, Try.ntmps16
    go_upto_region 1 with fail
    rw [HW.out]
    go_wp2_with fail
    go_ret
    exact ⟨rfl, HE.out⟩
/-- A round in a parameter's box. -/
def RB (W : World) (b : Nat) (r : Rd) : Prop := W.heap[b]? = some (.cells #[.int .i64 r.g.n, .int .i64 r.g.h0, .int .i64 r.g.h1, .int .i64 r.g.h2, .int .i64 r.g.h3, .int .i64 r.g.h4, .int .i64 r.f] 38 (0, 0))
theorem RB.ext {W W' : World} {b : Nat} {r : Rd} (h : RB W b r) (hE : Ext W W') : RB W' b r := (hE.b.block _ (lt_of_heap h)).trans h
theorem RB.row {W : World} {b : Nat} {r : Rd} (h : RB W b r) {p : Nat} (hp : p < 5) : W.cell? ⟨b, 1 + p, none⟩ = some (.int .i64 (r.g.h p)) := by
  rw [cell_of_row _ _ _ _ _ _ h]
  obtain rfl | rfl | rfl | rfl | rfl : p = 0 ∨ p = 1 ∨ p = 2 ∨ p = 3 ∨ p = 4 := by omega
  all_goals rfl
theorem and_runP_table : ((List.range 32).all fun a => (List.range 32).all fun b => decide (bits .and .i64 ((a : Nat) : Int) ((b : Nat) : Int) = ((a &&& b : Nat) : Int))) = true := by decide +kernel
theorem and_runP {a b : Nat} (ha : a < 32) (hb : b < 32) : bits .and .i64 (a : Int) (b : Int) = ((a &&& b : Nat) : Int) := by
  have h := and_runP_table
  rw [List.all_eq_true] at h
  have h := h a (List.mem_range.2 ha)
  rw [List.all_eq_true] at h
  exact of_decide_eq_true (h b (List.mem_range.2 hb))
set_option maxRecDepth 16000 in
set_option maxHeartbeats 4000000 in
theorem pplayC_any {n b f : Nat} {r : Rd} (hn : n = 2 ∨ n = 3) (hr : RdN n r) (hb : b < 32) (w : World) :
    Calls Try.prog 12 #[r.v, .int .i64 b, .int .i64 f] w fun e w' => e = .returned (.bool (playC n r b f)) ∧ Ext w w' := by
  obtain ⟨o, ho, ho2⟩ := hr.f
  have h32 : 2 ^ n ≤ 32 := pow32_le hr.wf.n5
  have ho32 : o < 32 := by omega
  have HG := hide (gs_of hr.wf).2
  have HON := hide (fun W => sones_any o ho32 W)
  have hwz : IntKind.u64.wrap (o : Int) = (o : Int) := by rw [IntKind.wrap_u64]; omega
  obtain ⟨W1, hW1⟩ : ∃ W1, w.alloc (.cells #[.int .i64 r.g.n, .int .i64 r.g.h0, .int .i64 r.g.h1, .int .i64 r.g.h2, .int .i64 r.g.h3, .int .i64 r.g.h4, .int .i64 r.f] 38) = W1 := ⟨_, rfl⟩
  have HB : Hid (RB W1 w.heap.size r) := by show RB _ _ _; rw [← hW1]; exact heap_alloc_new w _
  have HE : Hid (Ext w W1) := by show Ext _ _; rw [← hW1]; exact (Ext.refl w).alloc _
  have HW := hide hW1
  have HV : Hid (playC n r b f = (decide (sizeN o ≤ f) && (List.range n).all fun p => crashRow n o b p (r.g.h p).toNat)) := by show _ = _; unfold playC; rw [ho]; rfl
  have c0 : W1.cell? ⟨w.heap.size, 0, none⟩ = some (.int .i64 (n : Int)) := by rw [← hr.wf.n_eq]; exact cells_at HB.out 0
  have c6 : W1.cell? ⟨w.heap.size, 6, none⟩ = some (.int .i64 (o : Int)) := by rw [← ho]; exact cells_at HB.out 6
  have cz := lt_of_heap HB.out
  have HN := hide hr.wf.n_eq
  have HO := hide ho
  have hpw := pow_run (p := n) (by omega)
  have hn64 : (n : Int) < 64 := by omega
  have hfl : IntKind.i64.wrap ((2 : Int) ^ n - 1) = (fullN n : Nat) := by rcases hn with rfl | rfl <;> decide +kernel
  have hfl2 : wrap64 ((2 : Int) ^ n - 1) = (fullN n : Nat) := by rcases hn with rfl | rfl <;> decide +kernel
  have hfull := full_lt32 (n := n) (by omega)
  clear hr ho hW1
  by_cases hfe : sizeN o ≤ f
  case neg =>
    have HR : Hid (playC n r b f = false) := by show _ = _; rw [HV.out, decide_eq_false hfe, Bool.false_and]
    have hd : decide ((f : Int) < ((sizeN o : Nat) : Int)) = true := decide_eq_true (by omega)
    have hd2 : decide (f < sizeN o) = true := decide_eq_true (by omega)
    generalize playC n r b f = res at HR ⊢
    clear hfe HV
    go_enter Try.func12, Try.ntmps12
    go_upto_region 1 with fail
    rw [HW.out]
    go_wp2_with (go_at_call 36; refine (HON.out _).mono ?_; rintro e w' ⟨rfl, hww⟩; replace hww := hww.symm; subst hww)
    go_ret
    exact ⟨ret_bool HR.out.symm, HE.out⟩
  case pos =>
  have HR : Hid (playC n r b f = (List.range n).all fun p => crashRow n o b p (r.g.h p).toNat) := by show _ = _; rw [HV.out, decide_eq_true hfe, Bool.true_and]
  have hd : decide ((f : Int) < ((sizeN o : Nat) : Int)) = false := decide_eq_false (by omega)
  have hd2 : decide (f < sizeN o) = false := decide_eq_false (by omega)
  generalize playC n r b f = res at HR ⊢
  clear hfe HV
  go_enter Try.func12, Try.ntmps12
  go_upto_region 1 with fail
  rw [HW.out]
  go_wp2_with (go_at_call 36; refine (HON.out _).mono ?_; rintro e w' ⟨rfl, hww⟩; replace hww := hww.symm; subst hww)
  clear c0 hpw hn64 hwz hd hd2 hfl hfl2
  go_loopw [8, 9, 24] (fun _ _ x V => ∃ i : Nat, i ≤ n ∧ x = .int .i64 i ∧ V = W1 ∧ Hid (∀ t, t < i → crashRow n o b t (r.g.h t).toNat = true)) (fun _ _ x _ => n - (intOf x).toNat)
  case atStart => exact ⟨0, Nat.zero_le _, rfl, rfl, fun t ht => absurd ht (Nat.not_lt_zero t)⟩
  case round =>
    obtain ⟨i, hi, rfl, rfl, HL⟩ := hrel
    by_cases hlt : i < n
    · obtain ⟨s, hs, hs32⟩ := HG.out i (by omega)
      have r0 := HB.out.row (p := i) (by omega)
      rw [hs] at r0
      have hbit := bit_run (x := o) (p := i) ho32 (by omega)
      have hpi := pow_run (p := i) (by omega)
      have hi64 : (i : Int) < 64 := by omega
      have hi5 : (i : Int) < 5 := by omega
      have k1 := and_runP hs32 hb
      have k2 := andNot_run hfull ho32
      have k3 := andNot_run (andNot_lt hfull ho32) hs32
      have HC : Hid (crashRow n o b i (r.g.h i).toNat = !((bit o i && s != 2 ^ i) || (!bit o i && ((s &&& b != 0) || (andNot (andNot (fullN n) o) s != 0))))) := by show _ = _; rw [hs]; rfl
      have q1 : ((s : Int) != ((2 ^ i : Nat) : Int)) = (s != 2 ^ i) := by
        by_cases e : s = 2 ^ i
        · rw [e]; simp
        · have e2 : (s : Int) ≠ ((2 ^ i : Nat) : Int) := fun h => e (by exact_mod_cast h)
          simp only [bne, beq_eq_false_iff_ne.2 e, beq_eq_false_iff_ne.2 e2]
      have q2 : (((s &&& b : Nat) : Int) != 0) = (s &&& b != 0) := by
        by_cases e : s &&& b = 0
        · rw [e]; rfl
        · have e2 : ((s &&& b : Nat) : Int) ≠ 0 := by omega
          simp only [bne, beq_eq_false_iff_ne.2 e, beq_eq_false_iff_ne.2 e2]
      have q3 : (((andNot (andNot (fullN n) o) s : Nat) : Int) != 0) = (andNot (andNot (fullN n) o) s != 0) := by
        by_cases e : andNot (andNot (fullN n) o) s = 0
        · rw [e]; rfl
        · have e2 : ((andNot (andNot (fullN n) o) s : Nat) : Int) ≠ 0 := by omega
          simp only [bne, beq_eq_false_iff_ne.2 e, beq_eq_false_iff_ne.2 e2]
      have HNO : Hid (crashRow n o b i (r.g.h i).toNat = false → res = false) := fun h => by
        rw [HR.out, Bool.eq_false_iff]
        intro ha
        have := List.all_eq_true.1 ha i (List.mem_range.2 hlt)
        rw [h] at this
        cases this
      have HYES : Hid (crashRow n o b i (r.g.h i).toNat = true → ∀ t, t < i + 1 → crashRow n o b t (r.g.h t).toNat = true) := fun h t ht => by
        rcases Nat.lt_succ_iff_lt_or_eq.1 ht with h2 | rfl
        · exact HL.out t h2
        · exact h
      generalize crashRow n o b i (r.g.h i).toNat = cr at HC HNO HYES
      generalize andNot (andNot (fullN n) o) s = m2 at k3 q3 HC
      generalize andNot (fullN n) o = m1 at k2 k3
      generalize s &&& b = m0 at k1 q2 HC
      generalize 2 ^ i = pi at hpi q1 HC
      generalize (s != pi) = t1 at q1 HC
      generalize (m0 != 0) = t2 at q2 HC
      generalize (m2 != 0) = t3 at q3 HC
      have hlI : (i : Int) < (n : Int) := by omega
      clear hs hs32
      cases hc : bit o i with
      | true =>
        rw [hc] at hbit HC
        clear hc
        cases t1 with
        | true =>
          have hcr : cr = false := HC.out
          have HRF := hide (HNO.out hcr)
          go_wp2_with fail
          go_ret
          exact ⟨ret_bool HRF.out.symm, HE.out⟩
        | false =>
          have hcr : cr = true := HC.out
          have HY := hide (HYES.out hcr)
          go_wp2_with fail
          go_round
          case rel => exact ⟨i + 1, by omega, by go_num, by first | rfl | trivial, HY⟩
          case measure => simp [intOf]; omega
      | false =>
        rw [hc] at hbit HC
        clear hc
        cases t2 with
        | true =>
          have hcr : cr = false := HC.out
          have HRF := hide (HNO.out hcr)
          go_wp2_with fail
          go_ret
          exact ⟨ret_bool HRF.out.symm, HE.out⟩
        | false =>
          cases t3 with
          | true =>
            have hcr : cr = false := HC.out
            have HRF := hide (HNO.out hcr)
            go_wp2_with fail
            go_ret
            exact ⟨ret_bool HRF.out.symm, HE.out⟩
          | false =>
            have hcr : cr = true := HC.out
            have HY := hide (HYES.out hcr)
            go_wp2_with fail
            go_round
            case rel => exact ⟨i + 1, by omega, by go_num, by first | rfl | trivial, HY⟩
            case measure => simp [intOf]; omega
    · obtain rfl : i = n := by omega
      have HRT : Hid (res = true) := by
        show res = true
        rw [HR.out, List.all_eq_true]
        exact fun t ht => HL.out t (List.mem_range.1 ht)
      go_wp2_with fail
      go_ret
      exact ⟨ret_bool HRT.out.symm, HE.out⟩
/-! playOmission -/
/-- What the missing messages before (p, q) show. -/
def ShP (n : Nat) (r : Rd) (b : Nat) (sd rc : Bool) (p q sh : Nat) : Prop := sh < 32 ∧ ∀ x, x < n → (bit sh x = true ↔ bit b x = true ∨ (∃ p', p' < p ∧ ∃ q', q' < n ∧ omAdd r b sd rc p' q' x = true) ∨ ∃ q', q' < q ∧ omAdd r b sd rc p q' x = true)
def OkP (n : Nat) (r : Rd) (sd rc : Bool) (p q : Nat) : Prop := (∀ p', p' < p → ∀ q', q' < n → omOk n r sd rc p' q' = true) ∧ ∀ q', q' < q → omOk n r sd rc p q' = true
theorem ShP.same {n : Nat} {r : Rd} {b : Nat} {sd rc : Bool} {p q sh : Nat} (h : ShP n r b sd rc p q sh) (hm : hb r.g p q = true) : ShP n r b sd rc p (q + 1) sh := by
  refine ⟨h.1, fun x hx => (h.2 x hx).trans (or_congr Iff.rfl (or_congr Iff.rfl ?_))⟩
  constructor
  · rintro ⟨q', h1, h2⟩
    exact ⟨q', by omega, h2⟩
  · rintro ⟨q', h1, h2⟩
    by_cases e : q' = q
    · subst e; unfold omAdd at h2; rw [hm] at h2; simp at h2
    · exact ⟨q', by omega, h2⟩
theorem ShP.add {n : Nat} {r : Rd} {b : Nat} {sd rc : Bool} {p q sh sh' : Nat} (h : ShP n r b sd rc p q sh) (h32 : sh' < 32) (hb : ∀ x, x < n → (bit sh' x = true ↔ bit sh x = true ∨ omAdd r b sd rc p q x = true)) : ShP n r b sd rc p (q + 1) sh' := by
  refine ⟨h32, fun x hx => ?_⟩
  rw [hb x hx, h.2 x hx]
  constructor
  · rintro ((h1 | h1 | ⟨q', h1, h2⟩) | h1)
    · exact .inl h1
    · exact .inr (.inl h1)
    · exact .inr (.inr ⟨q', by omega, h2⟩)
    · exact .inr (.inr ⟨q, by omega, h1⟩)
  · rintro (h1 | h1 | ⟨q', h1, h2⟩)
    · exact .inl (.inl h1)
    · exact .inl (.inr (.inl h1))
    · by_cases e : q' = q
      · subst e; exact .inr h2
      · exact .inl (.inr (.inr ⟨q', by omega, h2⟩))
theorem ShP.next {n : Nat} {r : Rd} {b : Nat} {sd rc : Bool} {p sh : Nat} (h : ShP n r b sd rc p n sh) : ShP n r b sd rc (p + 1) 0 sh := by
  refine ⟨h.1, fun x hx => (h.2 x hx).trans (or_congr Iff.rfl ?_)⟩
  constructor
  · rintro (⟨p', h1, h2⟩ | ⟨q', h1, h2⟩)
    · exact .inl ⟨p', by omega, h2⟩
    · exact .inl ⟨p, by omega, q', h1, h2⟩
  · rintro (⟨p', h1, q', h2, h3⟩ | ⟨q', h1, _⟩)
    · by_cases e : p' = p
      · subst e; exact .inr ⟨q', h2, h3⟩
      · exact .inl ⟨p', by omega, q', h2, h3⟩
    · exact absurd h1 (Nat.not_lt_zero q')
theorem ShP.start {n : Nat} {r : Rd} {b : Nat} {sd rc : Bool} (hb : b < 32) : ShP n r b sd rc 0 0 b := by
  refine ⟨hb, fun x _ => ⟨fun h => .inl h, ?_⟩⟩
  rintro (h | ⟨p', h, _⟩ | ⟨q', h, _⟩)
  · exact h
  · exact absurd h (Nat.not_lt_zero p')
  · exact absurd h (Nat.not_lt_zero q')
theorem OkP.step {n : Nat} {r : Rd} {sd rc : Bool} {p q : Nat} (h : OkP n r sd rc p q) (hq : omOk n r sd rc p q = true) : OkP n r sd rc p (q + 1) := ⟨h.1, fun q' h1 => by
  by_cases e : q' = q
  · subst e; exact hq
  · exact h.2 q' (by omega)⟩
theorem OkP.next {n : Nat} {r : Rd} {sd rc : Bool} {p : Nat} (h : OkP n r sd rc p n) : OkP n r sd rc (p + 1) 0 := ⟨fun p' h1 q' h2 => by
  by_cases e : p' = p
  · subst e; exact h.2 q' h2
  · exact h.1 p' (by omega) q' h2, fun q' h => absurd h (Nat.not_lt_zero q')⟩
theorem OkP.start {n : Nat} {r : Rd} {sd rc : Bool} : OkP n r sd rc 0 0 := ⟨fun p' h => absurd h (Nat.not_lt_zero p'), fun q' h => absurd h (Nat.not_lt_zero q')⟩
theorem playO_no {n b f p q : Nat} {r : Rd} {sd rc : Bool} (hp : p < n) (hq : q < n) (h : omOk n r sd rc p q = false) : playO n r b f sd rc = false := by
  rw [Bool.eq_false_iff]
  intro hh
  unfold playO at hh
  simp only [Bool.and_eq_true, List.all_eq_true, List.mem_range] at hh
  rw [hh.2.1 p hp q hq] at h
  cases h
/-- The last comparison. -/
theorem playO_end {n b f sh o : Nat} {r : Rd} {sd rc : Bool} (hr : RdN n r) (ho : r.f = (o : Int)) (hf : sizeN o ≤ f) (hok : OkP n r sd rc n 0) (hsh : ShP n r b sd rc n 0 sh) : playO n r b f sd rc = decide (andNot o sh = 0) := by
  obtain ⟨o', ho', ho2⟩ := hr.f
  obtain rfl : o' = o := by omega
  have h5 := hr.wf.n5
  have h32 := pow32_le h5
  have hoN : r.f.toNat = o' := by rw [ho]; rfl
  have hlt := andNot_lt (show o' < 32 by omega) hsh.1
  have hz := ne_zero_bit hlt
  rw [Bool.eq_iff_iff, decide_eq_true_eq]
  unfold playO
  simp only [Bool.and_eq_true, decide_eq_true_eq, List.all_eq_true, List.mem_range, Bool.or_eq_true, Bool.not_eq_true', List.any_eq_true]
  constructor
  · rintro ⟨_, _, h3⟩
    by_cases e : andNot o' sh = 0
    · exact e
    · exfalso
      rw [decide_eq_true e] at hz
      obtain ⟨x, hx, hb1⟩ := List.any_eq_true.1 hz.symm
      have hx := List.mem_range.1 hx
      rw [andNot_bit (by omega) hsh.1 hx, Bool.and_eq_true, Bool.not_eq_true'] at hb1
      have hxn : x < n := by
        rcases Nat.lt_or_ge x n with h | h
        · exact h
        · rw [bit_big ho2 h] at hb1; cases hb1.1
      have hs : bit sh x = true := by
        refine (hsh.2 x hxn).2 ?_
        rcases h3 x hxn with h | h | ⟨p, hp, q, hq, h⟩
        · rw [hoN, hb1.1] at h; cases h
        · exact .inl h
        · exact .inr (.inl ⟨p, hp, q, hq, h⟩)
      rw [hs] at hb1
      cases hb1.2
  · intro e
    refine ⟨by rw [hoN]; exact hf, fun p hp q hq => hok.1 p hp q hq, fun x hx => ?_⟩
    cases hox : bit r.f.toNat x with
    | false => exact .inl rfl
    | true =>
      right
      have hs : bit sh x = true := by
        cases hs : bit sh x with
        | true => rfl
        | false =>
          exfalso
          rw [hoN] at hox
          have hb1 : bit (andNot o' sh) x = true := by rw [andNot_bit (by omega) hsh.1 (by omega), hox, hs]; rfl
          rw [e] at hb1
          unfold bit at hb1
          rw [Nat.zero_testBit] at hb1
          cases hb1
      rcases (hsh.2 x hx).1 hs with h | ⟨p, hp, q, hq, h⟩ | ⟨q, hq, _⟩
      · exact .inl h
      · exact .inr ⟨p, hp, q, hq, h⟩
      · exact absurd hq (Nat.not_lt_zero q)
end Go.Proofs.Ytnhgdjiljjpgmaa
