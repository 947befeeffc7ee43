/-
  The program's layer 11 (task): Check.
  Conditions: as each theorem states.
-/
import Derived.Test.YthkididgbaamcaaGreatDoorOwned
import Derived.Test.YthkididgbaamcaaGreatDoorTkRep
namespace Go.Proofs.YthkididgbaamcaaGreatDoor
open Go.RowKit
attribute [local go_sem] Oper.semAt_some

set_option maxHeartbeats 1000000 in
theorem idxI_g (P : Int → Bool) (fid : Nat) (lb : Array Value) (l : List Int) (u : Value) (w : World) (hl : Row icells 1 w u l)
    (ef : ∀ args w, (callFunc fid args).run Tryz.prog w = .ok (.enter fid args) w)
    (hF : ∀ x W, Ext w W → Calls Tryz.prog fid (#[.int .i64 x] ++ lb) W fun e w' => e = .returned (.bool (P x)) ∧ Ext W w') :
    Calls Tryz.prog 93 #[u, .func (.func fid) #[] lb] w fun e w' => e = .returned (.int .i64 (firstAt (fun i => P (l.getD i 0)) l.length)) ∧ Ext w w' := by
  have HC := hide hF
  obtain ⟨p, c, rfl, hc, hlen, hat⟩ := hl.int_all
  have HA := hide hat
  clear hl hat hF
  have H1 := hide (fun k hk => firstAt_at (P := fun i => P (l.getD i 0)) (n := l.length) (k := k) hk)
  have H2 := hide (firstAt_none (P := fun i => P (l.getD i 0)) (n := l.length))
  generalize firstAt (fun i => P (l.getD i 0)) l.length = res at H1 H2 ⊢
  generalize l.length = n at *
  generalize hf : l.getD = f at *
  clear hf
  go_enter Tryz.func93, Tryz.ntmps93
  go_wp2_with fail
  go_loopw [8] (fun x wr => ∃ i : Nat, i ≤ n ∧ x = .int .i64 i ∧ (∀ j, j < i → P (f j 0) = false) ∧ Ext w wr) (fun x _ => n - (intOf x).toNat)
  case atStart => exact ⟨0, by omega, rfl, fun j hj => by omega, Ext.refl _⟩
  case round =>
    obtain ⟨i, hi, rfl, hj, hE⟩ := hrel
    have HJ := hide hj
    have HE := hide hE
    clear hj hE
    by_cases hlt : i < n
    · obtain ⟨b, o, rfl, hb, hat⟩ := HA.out (by omega)
      have hcx := hat i hlt _ HE.out
      clear hat
      have HF := hide (H1.out i hlt HJ.out)
      have HN : Hid (P (f i 0) = false → ∀ j, j < i + 1 → P (f j 0) = false) := fun h j hj => by
        by_cases e : j = i
        · subst e; exact h
        · exact HJ.out j (by omega)
      have HC2 := hide (HC.out (f i 0) wr HE.out)
      generalize P (f i 0) = r at HF HN HC2
      generalize f i 0 = x at hcx HC2
      go_wp2_with fail
      refine HC2.out.mono ?_
      rintro e w2 ⟨rfl, hw2⟩
      have HE2 := hide (HE.out.trans hw2)
      clear hw2 hcx
      cases r
      · have HR := hide (HN.out rfl)
        go_wp2_with fail
        go_roundw
        case rel => exact ⟨i + 1, by omega, by go_num, HR.out, HE2.out⟩
        case measure => simp [intOf]; omega
      · have HR := hide (HF.out rfl)
        go_wp2_with fail
        go_ret
        exact ⟨ret_int HR.out.symm, HE2.out⟩
    · obtain rfl : i = n := by omega
      have HR := hide (H2.out HJ.out)
      go_wp2_with fail
      go_ret
      exact ⟨ret_int HR.out.symm, HE.out⟩
theorem containsI_g (P : Int → Bool) (fid : Nat) (lb : Array Value) (l : List Int) (u : Value) (w : World) (hl : Row icells 1 w u l)
    (ef : ∀ args w, (callFunc fid args).run Tryz.prog w = .ok (.enter fid args) w)
    (hF : ∀ x W, Ext w W → Calls Tryz.prog fid (#[.int .i64 x] ++ lb) W fun e w' => e = .returned (.bool (P x)) ∧ Ext W w') :
    Calls Tryz.prog 61 #[u, .func (.func fid) #[] lb] w fun e w' => e = .returned (.bool (l.any P)) ∧ Ext w w' := by
  have HI := hide (idxI_g P fid lb l u w hl ef hF)
  have HD := hide ((firstAt_any (fun i => P (l.getD i 0)) l.length).trans (range_any l 0 P))
  obtain ⟨p, c, rfl, -⟩ := hl.int_all
  clear hl hF
  generalize l.any P = res at HD ⊢
  generalize firstAt (fun i => P (l.getD i 0)) l.length = k at HI HD
  go_enter Tryz.func61, Tryz.ntmps61
  go_wp2_with fail
  refine HI.out.mono ?_
  rintro e w2 ⟨rfl, hE2⟩
  have hd := HD.out
  go_wp2_with fail
  go_ret
  exact ⟨rfl, hE2⟩
set_option maxHeartbeats 1000000 in
theorem idxV_g (P : List Int → Bool) (fid : Nat) (lb : Array Value) (l : List (List Int)) (u : Value) (w : World) (hl : Rows2 icells 1 w u l)
    (ef : ∀ args w, (callFunc fid args).run Tryz.prog w = .ok (.enter fid args) w)
    (hF : ∀ i v W, i < l.length → Ext w W → Row icells 1 W v (l.getD i []) → Calls Tryz.prog fid (#[v] ++ lb) W fun e w' => e = .returned (.bool (P (l.getD i []))) ∧ Ext W w') :
    Calls Tryz.prog 104 #[u, .func (.func fid) #[] lb] w fun e w' => e = .returned (.int .i64 (firstAt (fun i => P (l.getD i [])) l.length)) ∧ Ext w w' := by
  have HC := hide hF
  obtain ⟨p, c, rfl, hc, hlen, hat⟩ := hl.sl_all
  have HA := hide hat
  clear hl hat hF
  have H1 := hide (fun k hk => firstAt_at (P := fun i => P (l.getD i [])) (n := l.length) (k := k) hk)
  have H2 := hide (firstAt_none (P := fun i => P (l.getD i [])) (n := l.length))
  generalize firstAt (fun i => P (l.getD i [])) l.length = res at H1 H2 ⊢
  generalize l.length = n at *
  generalize hf : l.getD = f at *
  clear hf
  go_enter Tryz.func104, Tryz.ntmps104
  go_wp2_with fail
  go_loopw [8] (fun x wr => ∃ i : Nat, i ≤ n ∧ x = .int .i64 i ∧ Hid (∀ j, j < i → P (f j []) = false) ∧ Hid (Ext w wr)) (fun x _ => n - (intOf x).toNat)
  case atStart => exact ⟨0, by omega, rfl, fun j hj => by omega, Ext.refl _⟩
  case round =>
    obtain ⟨i, hi, rfl, HJ, HE⟩ := hrel
    by_cases hlt : i < n
    · obtain ⟨b, o, rfl, hb, hat⟩ := HA.out (by omega)
      obtain ⟨q, d, hcx, hrow, hlx⟩ := hat i hlt
      replace hcx := hcx _ HE.out
      have hbz := Nat.lt_of_lt_of_le hb HE.out.size
      have HF := hide (H1.out i hlt HJ.out)
      have HN : Hid (P (f i []) = false → ∀ j, j < i + 1 → P (f j []) = false) := fun h j hj => by
        by_cases e : j = i
        · subst e; exact h
        · exact HJ.out j (by omega)
      have HC2 := hide (HC.out i _ wr hlt HE.out (hrow.ext HE.out))
      clear hat hrow
      generalize P (f i []) = r at HF HN HC2
      generalize (f i []).length = m at hcx HC2 hlx
      go_wp2_with fail
      refine HC2.out.mono ?_
      rintro e w2 ⟨rfl, hw2⟩
      have HE2 := hide (HE.out.trans hw2)
      clear hw2 hcx
      cases r
      · have HR := hide (HN.out rfl)
        go_wp2_with fail
        go_roundw
        case rel => exact ⟨i + 1, by omega, by go_num, HR.out, HE2.out⟩
        case measure => simp [intOf]; omega
      · have HR := hide (HF.out rfl)
        go_wp2_with fail
        go_ret
        exact ⟨ret_int HR.out.symm, HE2.out⟩
    · obtain rfl : i = n := by omega
      have HR := hide (H2.out HJ.out)
      go_wp2_with fail
      go_ret
      exact ⟨ret_int HR.out.symm, HE.out⟩
theorem containsV_g (P : List Int → Bool) (fid : Nat) (lb : Array Value) (l : List (List Int)) (u : Value) (w : World) (hl : Rows2 icells 1 w u l)
    (ef : ∀ args w, (callFunc fid args).run Tryz.prog w = .ok (.enter fid args) w)
    (hF : ∀ i v W, i < l.length → Ext w W → Row icells 1 W v (l.getD i []) → Calls Tryz.prog fid (#[v] ++ lb) W fun e w' => e = .returned (.bool (P (l.getD i []))) ∧ Ext W w') :
    Calls Tryz.prog 71 #[u, .func (.func fid) #[] lb] w fun e w' => e = .returned (.bool (l.any P)) ∧ Ext w w' := by
  have HI := hide (idxV_g P fid lb l u w hl ef hF)
  have HD := hide ((firstAt_any (fun i => P (l.getD i [])) l.length).trans (range_any l [] P))
  obtain ⟨p, c, rfl, -⟩ := hl.sl_all
  clear hl hF
  generalize l.any P = res at HD ⊢
  generalize firstAt (fun i => P (l.getD i [])) l.length = k at HI HD
  go_enter Tryz.func71, Tryz.ntmps71
  go_wp2_with fail
  refine HI.out.mono ?_
  rintro e w2 ⟨rfl, hE2⟩
  have hd := HD.out
  go_wp2_with fail
  go_ret
  exact ⟨rfl, hE2⟩
end Go.Proofs.YthkididgbaamcaaGreatDoor

namespace Go.Proofs.YthkididgbaamcaaGreatDoor
open Go.RowKit
attribute [local go_sem] Oper.semAt_some

def cmpI (x y : Int) : Int := if x < y then -1 else if y < x then 1 else 0
theorem nan_any (x : Int) (w : World) : Calls Tryz.prog 116 #[.int .i64 x] w fun e w' => e = .returned (.bool false) ∧ w' = w := by
  have h : (x != x) = false := by simp
  go_enter Tryz.func116, Tryz.ntmps116
  go_wp2_with fail
  go_ret
  exact ⟨rfl, rfl⟩
theorem cmpI_any (x y : Int) (w : World) : Calls Tryz.prog 83 #[.int .i64 x, .int .i64 y] w fun e w' => e = .returned (.int .i64 (cmpI x y)) ∧ w' = w := by
  have H1 := hide (fun W => nan_any x W)
  have H2 := hide (fun W => nan_any y W)
  by_cases h : x < y
  · have hd : decide (x < y) = true := by simp [h]
    have HR : Hid (cmpI x y = -1) := if_pos h
    clear h
    go_enter Tryz.func83, Tryz.ntmps83
    go_wp2_with fail
    refine (H1.out _).mono ?_
    rintro e w1 ⟨rfl, rfl⟩
    go_wp2_with fail
    refine (H2.out _).mono ?_
    rintro e w1 ⟨rfl, rfl⟩
    go_wp2_with fail
    go_ret
    exact ⟨ret_int HR.out.symm, rfl⟩
  · by_cases h2 : y < x
    · have hd : decide (x < y) = false := by simp; omega
      have hd2 : decide (y < x) = true := by simp [h2]
      have HR : Hid (cmpI x y = 1) := (if_neg h).trans (if_pos h2)
      clear h h2
      go_enter Tryz.func83, Tryz.ntmps83
      go_wp2_with fail
      refine (H1.out _).mono ?_
      rintro e w1 ⟨rfl, rfl⟩
      go_wp2_with fail
      refine (H2.out _).mono ?_
      rintro e w1 ⟨rfl, rfl⟩
      go_wp2_with fail
      go_ret
      exact ⟨ret_int HR.out.symm, rfl⟩
    · have hd : decide (x < y) = false := by simp; omega
      have hd2 : decide (y < x) = false := by simp; omega
      have HR : Hid (cmpI x y = 0) := (if_neg h).trans (if_neg h2)
      clear h h2
      go_enter Tryz.func83, Tryz.ntmps83
      go_wp2_with fail
      refine (H1.out _).mono ?_
      rintro e w1 ⟨rfl, rfl⟩
      go_wp2_with fail
      refine (H2.out _).mono ?_
      rintro e w1 ⟨rfl, rfl⟩
      go_wp2_with fail
      go_ret
      exact ⟨ret_int HR.out.symm, rfl⟩
theorem ordL_cmp {a b : List Int} {i : Nat} (h1 : i < a.length) (h2 : i < b.length) : ordL (a.drop i) (b.drop i) = if cmpI (a.getD i 0) (b.getD i 0) ≠ 0 then cmpI (a.getD i 0) (b.getD i 0) else ordL (a.drop (i + 1)) (b.drop (i + 1)) := by
  rw [ordL_step h1 h2]
  generalize a.getD i 0 = x
  generalize b.getD i 0 = y
  unfold cmpI
  by_cases h : x < y
  · simp [h]
  · by_cases h' : y < x
    · simp [h, h']
    · simp [h, h']
set_option maxHeartbeats 1000000 in
/-- slices.Compare of vectors. -/
theorem scmp_any (a b : List Int) (u v : Value) (w : World) (ha : Row icells 1 w u a) (hb : Row icells 1 w v b) :
    Calls Tryz.prog 49 #[u, v] w fun e w' => e = .returned (.int .i64 (ordL a b)) ∧ Ext w w' := by
  obtain ⟨p, c, rfl, hc, hl, hat⟩ := ha.int_all
  obtain ⟨q, d, rfl, hd, hm, hat2⟩ := hb.int_all
  have HA := hide hat
  have HB := hide hat2
  have HS := hide (fun i => ordL_cmp (a := a) (b := b) (i := i))
  have HD := hide (fun i => ordL_end (a := a) (b := b) (i := i))
  have H0 : Hid (ordL a b = ordL (a.drop 0) (b.drop 0)) := rfl
  clear ha hb hat hat2
  generalize ordL a b = res at H0 ⊢
  generalize hf : (fun i => ordL (a.drop i) (b.drop i)) = f
  have hf' : ∀ i, ordL (a.drop i) (b.drop i) = f i := fun i => by rw [← hf]
  simp only [hf'] at HS HD H0
  clear hf hf'
  generalize b.length = lb at *
  generalize a.length = la at *
  generalize hfa : a.getD = fa at *
  generalize hfb : b.getD = fb at *
  clear hfa hfb
  go_enter Tryz.func49, Tryz.ntmps49
  go_wp2_with fail
  go_loopw [11] (fun x wr => ∃ i : Nat, i ≤ la ∧ i ≤ lb ∧ x = .int .i64 i ∧ Hid (res = f i) ∧ Hid (Ext w wr)) (fun x _ => la - (intOf x).toNat)
  case atStart => exact ⟨0, by omega, by omega, rfl, H0, Ext.refl _⟩
  case round =>
    obtain ⟨i, hi, hi2, rfl, HF, HE⟩ := hrel
    by_cases h1 : i < la
    · obtain ⟨b1, o1, rfl, hb1, hat⟩ := HA.out (by omega)
      have hx := hat i h1 wr HE.out
      have hb1' : b1 < wr.heap.size := Nat.lt_of_lt_of_le hb1 HE.out.size
      clear hat
      by_cases h2 : i < lb
      · obtain ⟨b2, o2, rfl, hb2, hat2⟩ := HB.out (by omega)
        have hy := hat2 i h2 wr HE.out
        have hb2' : b2 < wr.heap.size := Nat.lt_of_lt_of_le hb2 HE.out.size
        clear hat2
        have HSI := hide (HF.out.trans (HS.out i h1 h2))
        have HC := hide (fun W => cmpI_any (fa i 0) (fb i 0) W)
        generalize cmpI (fa i 0) (fb i 0) = cc at HSI HC
        generalize fa i 0 = x at hx HC
        generalize fb i 0 = y at hy HC
        go_wp2_with fail
        refine (HC.out _).mono ?_
        rintro e w1 ⟨rfl, hw⟩
        have HE1 : Hid (Ext w w1) := by show Ext _ _; rw [hw]; exact HE.out
        clear hw
        by_cases h0 : cc = 0
        · have hd : (cc != 0) = false := by simp [h0]
          have HR := hide (HSI.out.trans (if_neg (fun k => k h0)))
          clear h0
          go_wp2_with fail
          go_roundw
          case rel => exact ⟨i + 1, by omega, by omega, by go_num, HR.out, HE1.out⟩
          case measure => simp [intOf]; omega
        · have hd : (cc != 0) = true := by simp [h0]
          have HR := hide (HSI.out.trans (if_pos h0))
          clear h0
          go_wp2_with fail
          go_ret
          exact ⟨ret_int HR.out.symm, HE1.out⟩
      · have HR := hide (HF.out.trans ((HD.out i (.inr (by omega)) (by omega) (by omega)).trans ((if_neg (by omega)).trans (if_pos (by omega)))))
        go_wp2_with fail
        go_ret
        exact ⟨ret_int HR.out.symm, HE.out⟩
    · obtain rfl : i = la := by omega
      have HR := hide (HF.out.trans (HD.out i (.inl (by omega)) (by omega) (by omega)))
      by_cases h2 : i < lb
      · have HR2 := hide (HR.out.trans (if_pos h2))
        go_wp2_with fail
        go_ret
        exact ⟨ret_int HR2.out.symm, HE.out⟩
      · have HR2 := hide (HR.out.trans ((if_neg h2).trans (if_neg (by omega))))
        go_wp2_with fail
        go_ret
        exact ⟨ret_int HR2.out.symm, HE.out⟩
set_option maxHeartbeats 1000000 in
/-- slices.Equal of vectors. -/
theorem seq_any (a b : List Int) (u v : Value) (w : World) (ha : Row icells 1 w u a) (hb : Row icells 1 w v b) :
    Calls Tryz.prog 16 #[u, v] w fun e w' => e = .returned (.bool (decide (a = b))) ∧ Ext w w' := by
  obtain ⟨p, c, rfl, hc, hl, hat⟩ := ha.int_all
  obtain ⟨q, d, rfl, hd, hm, hat2⟩ := hb.int_all
  have HA := hide hat
  have HB := hide hat2
  by_cases hlen : a.length = b.length
  case neg =>
    have hd1 : ((a.length : Int) != (b.length : Int)) = true := by rw [bne_iff_ne]; omega
    have hd2 : (a.length != b.length) = true := by rw [bne_iff_ne]; omega
    have HR : Hid (decide (a = b) = false) := decide_eq_false (fun e => hlen (by rw [e]))
    clear ha hb hat hat2 hlen
    go_enter Tryz.func16, Tryz.ntmps16
    go_wp2_with fail
    go_ret
    exact ⟨ret_bool HR.out.symm, Ext.refl _⟩
  case pos =>
  have hd1 : ((a.length : Int) != (b.length : Int)) = false := by rw [bne_eq_false_iff_eq]; omega
  have hd2 : (a.length != b.length) = false := by rw [bne_eq_false_iff_eq]; omega
  have HN : Hid (∀ i, i < a.length → a.getD i 0 ≠ b.getD i 0 → decide (a = b) = false) := fun i hi h => decide_eq_false (fun e => h (by rw [e]))
  have HY : Hid ((∀ i, i < a.length → a.getD i 0 = b.getD i 0) → decide (a = b) = true) := fun h => decide_eq_true (List.ext_getElem hlen fun j h1 h2 => by
    have := h j h1
    rw [List.getD_eq_getElem?_getD, List.getD_eq_getElem?_getD, List.getElem?_eq_getElem h1, List.getElem?_eq_getElem h2] at this
    exact this)
  have HLEN := hide hlen
  generalize decide (a = b) = res at HN HY ⊢
  clear ha hb hat hat2 hlen
  go_enter Tryz.func16, Tryz.ntmps16
  go_wp2_with fail
  clear hd1 hd2
  go_loopw [13] (fun x wr => ∃ i : Nat, i ≤ a.length ∧ x = .int .i64 i ∧ Hid (∀ j, j < i → a.getD j 0 = b.getD j 0) ∧ Hid (Ext w wr)) (fun x _ => a.length - (intOf x).toNat)
  case atStart => exact ⟨0, by omega, rfl, fun j hj => by omega, Ext.refl _⟩
  case round =>
    obtain ⟨i, hi, rfl, HJ, HE⟩ := hrel
    by_cases hlt : i < a.length
    · have hlt' : i < b.length := by have := HLEN.out; omega
      obtain ⟨b1, o1, rfl, hb1, hat⟩ := HA.out (by omega)
      obtain ⟨b2, o2, rfl, hb2, hat2⟩ := HB.out (by omega)
      have hx := hat i hlt wr HE.out
      have hy := hat2 i hlt' wr HE.out
      have hb1' : b1 < wr.heap.size := Nat.lt_of_lt_of_le hb1 HE.out.size
      have hb2' : b2 < wr.heap.size := Nat.lt_of_lt_of_le hb2 HE.out.size
      have HNI := hide (HN.out i hlt)
      have HNX : Hid (a.getD i 0 = b.getD i 0 → ∀ j, j < i + 1 → a.getD j 0 = b.getD j 0) := fun h j hj => by
        by_cases e : j = i
        · subst e; exact h
        · exact HJ.out j (by omega)
      clear hat hat2
      generalize a.getD i 0 = x at hx HNI HNX
      generalize b.getD i 0 = y at hy HNI HNX
      by_cases h0 : x = y
      · have hd : (x != y) = false := by simp [h0]
        have HR := hide (HNX.out h0)
        clear h0
        go_wp2_with fail
        refine wp_region_ext (by kernel_rfl) (by kernel_rfl) ?_
        repeat (go_big_quiet_step (fail))
        refine wpQuiet_nil ?_
        rintro w9 ⟨⟨_, hE9⟩, rfl⟩
        have HE := hide (HE.out.trans hE9)
        clear hx hy hE9
        go_wp2_with fail
        go_roundw
        case rel => exact ⟨i + 1, by omega, by go_num, HR.out, HE.out⟩
        case measure => simp [intOf]; omega
      · have hd : (x != y) = true := by simp [h0]
        have HR := hide (HNI.out h0)
        clear h0
        go_wp2_with fail
        refine wp_region_ext (by kernel_rfl) (by kernel_rfl) ?_
        repeat (go_big_quiet_step (fail))
        refine wpQuiet_nil ?_
        rintro w9 ⟨⟨_, hE9⟩, rfl⟩
        have HE := hide (HE.out.trans hE9)
        clear hx hy hE9
        go_wp2_with fail
        go_ret
        exact ⟨ret_bool HR.out.symm, HE.out⟩
    · obtain rfl : i = a.length := by omega
      have HR := hide (HY.out HJ.out)
      go_wp2_with fail
      go_ret
      exact ⟨ret_bool HR.out.symm, HE.out⟩
/-- A vector's element beyond the values. -/
def vecBad (m x : Int) : Bool := decide (x < 0) || decide (m ≤ x)
def vecE (v : List Int) (n m : Int) : Int := if (v.length : Int) ≠ n then 15 else if v.any (vecBad m) = true then 2 else 0
def unord (l : List (List Int)) (i : Nat) : Bool := decide (0 < i) && decide (0 ≤ ordL (l.getD (i - 1) []) (l.getD i []))
def IBox (W : World) (b : Nat) (m : Int) : Prop := W.heap[b]? = some (.cells #[.int .i64 m] 3 (0, 0))
theorem IBox.ext {W W' : World} {b : Nat} {m : Int} (h : IBox W b m) (hE : Ext W W') : IBox W' b m := (hE.b.block _ (lt_of_heap h)).trans h
theorem vec1_any (m x : Int) (b : Nat) (w : World) (hb : IBox w b m) : Calls Tryz.prog 131 #[.int .i64 x, .pointer (some ⟨b, 0, none⟩)] w fun e w' => e = .returned (.bool (vecBad m x)) ∧ Ext w w' := by
  have k0 : w.cell? ⟨b, 0, none⟩ = some (.int .i64 m) := decl_cells hb 0
  have hz := lt_of_heap hb
  unfold vecBad
  have key : ∀ p q : Bool, decide (x < 0) = p → decide (m ≤ x) = q → Calls Tryz.prog 131 #[.int .i64 x, .pointer (some ⟨b, 0, none⟩)] w fun e w' => e = .returned (.bool (p || q)) ∧ Ext w w' := by
    intro p q h1 h2
    cases p <;> cases q
    all_goals
      go_enter Tryz.func131, Tryz.ntmps131
      go_wp2_with fail
      go_ret
      exact ⟨rfl, Ext.refl _⟩
  exact key _ _ rfl rfl
theorem enters_vec1 : ∀ args w, (callFunc 131 args).run Tryz.prog w = .ok (.enter 131 args) w := fun _ _ => by kernel_rfl
theorem vector_any (v : List Int) (n m : Int) (u : Value) (w : World) (hv : Row icells 1 w u v) :
    Calls Tryz.prog 102 #[u, .int .i64 n, .int .i64 m] w fun e w' => e = .returned (.int .i64 (vecE v n m)) ∧ Ext w w' := by
  have HB : Hid (IBox (w.alloc (.cells #[.int .i64 m] 3)) w.heap.size m) := heap_alloc_new w _
  have HE0 : Hid (Ext w (w.alloc (.cells #[.int .i64 m] 3))) := (Ext.refl w).alloc _
  have HC := hide (containsI_g (vecBad m) 131 #[.pointer (some ⟨w.heap.size, 0, none⟩)] v u (w.alloc (.cells #[.int .i64 m] 3)) (hv.ext HE0.out) enters_vec1 (fun x W hW => vec1_any m x _ W (HB.out.ext hW)))
  obtain ⟨p, c, rfl, hc, hl, -⟩ := hv.int_all
  clear hv
  by_cases hn : (v.length : Int) = n
  · have HR : Hid (vecE v n m = if v.any (vecBad m) = true then 2 else 0) := if_neg (fun k => k hn)
    have hd : ((v.length : Int) != n) = false := by simp [hn]
    clear hn
    generalize v.any (vecBad m) = r at HC HR
    go_enter Tryz.func102, Tryz.ntmps102
    go_wp2_with fail
    refine HC.out.mono ?_
    rintro e w1 ⟨rfl, hE1⟩
    cases r
    · go_wp2_with fail
      go_ret
      exact ⟨ret_int HR.out.symm, HE0.out.trans hE1⟩
    · go_wp2_with fail
      go_ret
      exact ⟨ret_int HR.out.symm, HE0.out.trans hE1⟩
  · have HR : Hid (vecE v n m = 15) := if_pos hn
    have hd : ((v.length : Int) != n) = true := by simp [hn]
    clear hn
    go_enter Tryz.func102, Tryz.ntmps102
    go_wp2_with fail
    go_ret
    exact ⟨ret_int HR.out.symm, HE0.out⟩
end Go.Proofs.YthkididgbaamcaaGreatDoor

namespace Go.Proofs.YthkididgbaamcaaGreatDoor
open Go.RowKit
attribute [local go_sem] Oper.semAt_some

set_option maxHeartbeats 1000000 in
theorem unord_any (l : List (List Int)) (i : Nat) (u : Value) (w : World) (hu : Rows2 icells 1 w u l) (hi : i < l.length) :
    Calls Tryz.prog 132 #[u, .int .i64 i] w fun e w' => e = .returned (.bool (unord l i)) ∧ Ext w w' := by
  obtain ⟨p, c, rfl, hc, hl, hat⟩ := hu.sl_all
  obtain ⟨b, o, rfl, hb, hat⟩ := hat (by omega)
  clear hu
  by_cases h0 : i = 0
  · subst h0
    have HR : Hid (unord l 0 = false) := rfl
    have hd : decide ((0 : Int) < ((0 : Nat) : Int)) = false := rfl
    clear hat
    go_enter Tryz.func132, Tryz.ntmps132
    go_wp2_with fail
    refine wp_region_ext (by kernel_rfl) (by kernel_rfl) ?_
    repeat (go_big_quiet_step (fail))
    refine wpQuiet_nil ?_
    rintro w9 ⟨⟨_, hE9⟩, rfl⟩
    go_wp2_with fail
    go_ret
    exact ⟨ret_bool HR.out.symm, hE9⟩
  · obtain ⟨k, rfl⟩ : ∃ k, i = k + 1 := ⟨i - 1, by omega⟩
    obtain ⟨q0, d0, hx, hrx, hlx⟩ := hat k (by omega)
    obtain ⟨q1, d1, hy, hry, hly⟩ := hat (k + 1) (by omega)
    have HR : Hid (unord l (k + 1) = decide (0 ≤ ordL (l.getD k []) (l.getD (k + 1) []))) := by
      show _ = _
      unfold unord
      rw [show k + 1 - 1 = k by omega]; simp
    have HC := hide (fun W (hW : Ext w W) => scmp_any (l.getD k []) (l.getD (k + 1) []) _ _ W (hrx.ext hW) (hry.ext hW))
    replace hx := hx w (Ext.refl _)
    replace hy := hy w (Ext.refl _)
    generalize ordL (l.getD k []) (l.getD (k + 1) []) = cc at HR HC
    generalize (l.getD k []).length = lx at *
    generalize (l.getD (k + 1) []).length = ly at *
    have hk0 : (0 : Int) ≤ (k : Int) + 1 := by omega
    have hk1 : ((k : Int) + 1).toNat = k + 1 := by omega
    have hk2 : (k : Int) + 1 < (l.length : Int) := by omega
    have hk3 : IntKind.i64.wrap ((k : Int) + 1 - 1) = (k : Int) := by rw [Int.add_sub_cancel]; exact IntWalk.i64_in _ (by omega)
    have hk4 : (k : Int) < (l.length : Int) := by omega
    have hd : decide ((0 : Int) < (k : Int) + 1) = true := by rw [decide_eq_true_iff]; omega
    clear hat h0 hrx hry
    go_enter Tryz.func132, Tryz.ntmps132
    go_wp2_with fail
    refine wp_region_ext (by kernel_rfl) (by kernel_rfl) ?_
    repeat (go_big_quiet_step ((go_at_call 49; exact Calls.ext_of (HC.out _ (by simp [go_sem])))))
    refine wpQuiet_nil ?_
    rintro w9 ⟨⟨_, hE9⟩, rfl⟩
    clear hk3 hx hy
    go_wp2_with fail
    go_ret
    exact ⟨ret_bool HR.out.symm, hE9⟩
/-- A box with a slice. -/
def SBox (W : World) (b : Nat) (v : Value) : Prop := W.heap[b]? = some (.cells #[v] 45 (0, 0))
theorem SBox.ext {W W' : World} {b : Nat} {v : Value} (h : SBox W b v) (hE : Ext W W') : SBox W' b v := (hE.b.block _ (lt_of_heap h)).trans h
theorem has1_any (x y : List Int) (u v : Value) (b : Nat) (w : World) (hx : Row icells 1 w u x) (hy : Row icells 1 w v y) (hb : SBox w b v) :
    Calls Tryz.prog 150 #[u, .pointer (some ⟨b, 0, none⟩)] w fun e w' => e = .returned (.bool (decide (x = y))) ∧ Ext w w' := by
  have k0 : w.cell? ⟨b, 0, none⟩ = some v := decl_cells hb 0
  have hz := lt_of_heap hb
  have HC := hide (seq_any x y u v w hx hy)
  obtain ⟨p, c, rfl, -⟩ := hx.int_all
  obtain ⟨q, d, rfl, -⟩ := hy.int_all
  clear hx hy hb
  go_enter Tryz.func150, Tryz.ntmps150
  go_wp2_with fail
  refine HC.out.mono ?_
  rintro e w1 ⟨rfl, hE1⟩
  go_wp2_with fail
  go_ret
  exact ⟨rfl, hE1⟩
theorem enters_has1 : ∀ args w, (callFunc 150 args).run Tryz.prog w = .ok (.enter 150 args) w := fun _ _ => by kernel_rfl
theorem any_eq_mem (l : List (List Int)) (y : List Int) : (l.any fun x => decide (x = y)) = decide (y ∈ l) := by
  rw [Bool.eq_iff_iff, List.any_eq_true, decide_eq_true_iff]
  constructor
  · rintro ⟨x, hx, he⟩
    rw [decide_eq_true_iff] at he
    exact he ▸ hx
  · intro h
    exact ⟨y, h, decide_eq_true rfl⟩
theorem thas_any (l : List (List Int)) (y : List Int) (u v : Value) (w : World) (hl : Rows2 icells 1 w u l) (hy : Row icells 1 w v y) :
    Calls Tryz.prog 133 #[u, v] w fun e w' => e = .returned (.bool (decide (y ∈ l))) ∧ Ext w w' := by
  have HB : Hid (SBox (w.alloc (.cells #[v] 45)) w.heap.size v) := heap_alloc_new w _
  have HE0 : Hid (Ext w (w.alloc (.cells #[v] 45))) := (Ext.refl w).alloc _
  have HC := hide (containsV_g (fun x => decide (x = y)) 150 #[.pointer (some ⟨w.heap.size, 0, none⟩)] l u (w.alloc (.cells #[v] 45)) (hl.ext HE0.out) enters_has1 (fun i x W _ hW hx => has1_any (l.getD i []) y x v _ W hx (hy.ext (HE0.out.trans hW)) (HB.out.ext hW)))
  rw [any_eq_mem] at HC
  obtain ⟨p, c, rfl, -⟩ := hl.sl_all
  obtain ⟨q, d, rfl, -⟩ := hy.int_all
  clear hl hy
  go_enter Tryz.func133, Tryz.ntmps133
  go_wp2_with fail
  refine HC.out.mono ?_
  rintro e w1 ⟨rfl, hE1⟩
  go_wp2_with fail
  go_ret
  exact ⟨rfl, HE0.out.trans hE1⟩
def outE (n m : Int) (l : List (List Int)) (i : Nat) : Int := if vecE (l.getD i []) n m ≠ 0 then vecE (l.getD i []) n m else if unord l i = true then 14 else 0
def calmE (l c : List (List Int)) (i : Nat) : Int := if decide (c.getD i [] ∈ l) = false then 6 else if unord c i = true then 14 else 0
/-- The error of the output vectors of a case. -/
def csE (n m : Int) (c : Cs) : Int :=
  if c.out.length < 1 ∨ 1024 < c.out.length then 5 else if firstErr (outE n m c.out) c.out.length ≠ 0 then firstErr (outE n m c.out) c.out.length else firstErr (calmE c.out c.calm) c.calm.length
def inE (T : Tk) (i : Nat) : Int :=
  if vecE (T.cs.getD i default).inp T.n T.ins ≠ 0 then vecE (T.cs.getD i default).inp T.n T.ins
  else if decide (0 < i) && decide (0 ≤ ordL (T.cs.getD (i - 1) default).inp (T.cs.getD i default).inp) then 14 else csE T.n T.outs (T.cs.getD i default)
/-- The error of a task. -/
def tkE (T : Tk) : Int :=
  if T.n < 1 ∨ 5 < T.n ∨ T.ins < 1 ∨ 8 < T.ins ∨ T.outs < 1 ∨ 8 < T.outs then 2 else if T.cs.length < 1 ∨ 1024 < T.cs.length then 5 else firstErr (inE T) T.cs.length
set_option maxRecDepth 16000 in
set_option maxHeartbeats 2000000 in
theorem tvectors_any (n ins outs : Int) (c : Cs) (p : Option Addr) (m cc : Nat) (q0 : Option Addr) (l0 k0 : Nat) (q1 : Option Addr) (k1 : Nat) (q2 : Option Addr) (k2 : Nat) (w : World)
    (h1 : Rows2 icells 1 w (.slice q1 c.out.length k1) c.out) (h2 : Rows2 icells 1 w (.slice q2 c.calm.length k2) c.calm) :
    Calls Tryz.prog 103 #[.agg #[.int .i64 n, .int .i64 ins, .int .i64 outs, .slice p m cc], .agg #[.slice q0 l0 k0, .slice q1 c.out.length k1, .slice q2 c.calm.length k2]] w fun e w' => e = .returned (.int .i64 (csE n outs c)) ∧ Ext w w' := by
  have HU1 := hide (fun i W (hW : Ext w W) hi => unord_any c.out i _ W (h1.ext hW) hi)
  have HU2 := hide (fun i W (hW : Ext w W) hi => unord_any c.calm i _ W (h2.ext hW) hi)
  have HH := hide (fun y v W (hW : Ext w W) (hy : Row icells 1 W v y) => thas_any c.out y _ v W (h1.ext hW) hy)
  have HE1 : Hid (∀ i, i < c.out.length → (∀ j, j < i → outE n outs c.out j = 0) → outE n outs c.out i ≠ 0 → ¬ (c.out.length < 1 ∨ 1024 < c.out.length) → csE n outs c = outE n outs c.out i) := fun i hi hj he hb => by
    have := firstErr_at (f := outE n outs c.out) hi hj he
    unfold csE
    rw [if_neg hb, this, if_pos he]
  have HE2 : Hid ((∀ j, j < c.out.length → outE n outs c.out j = 0) → ∀ i, i < c.calm.length → (∀ j, j < i → calmE c.out c.calm j = 0) → calmE c.out c.calm i ≠ 0 → ¬ (c.out.length < 1 ∨ 1024 < c.out.length) → csE n outs c = calmE c.out c.calm i) := fun h0 i hi hj he hb => by
    unfold csE
    rw [if_neg hb, firstErr_end h0, if_neg (fun k => k rfl), firstErr_at hi hj he]
  have HE3 : Hid ((∀ j, j < c.out.length → outE n outs c.out j = 0) → (∀ j, j < c.calm.length → calmE c.out c.calm j = 0) → ¬ (c.out.length < 1 ∨ 1024 < c.out.length) → csE n outs c = 0) := fun h0 h1 hb => by
    unfold csE
    rw [if_neg hb, firstErr_end h0, if_neg (fun k => k rfl), firstErr_end h1]
  have HE0 : Hid (c.out.length < 1 ∨ 1024 < c.out.length → csE n outs c = 5) := fun h => if_pos h
  have HO : Hid (∀ i, outE n outs c.out i = if vecE (c.out.getD i []) n outs ≠ 0 then vecE (c.out.getD i []) n outs else if unord c.out i = true then 14 else 0) := fun i => rfl
  have HCA : Hid (∀ i, calmE c.out c.calm i = if decide (c.calm.getD i [] ∈ c.out) = false then 6 else if unord c.calm i = true then 14 else 0) := fun i => rfl
  obtain ⟨pa, ca, ea, -, hla, hata⟩ := h1.sl_all
  injection ea with ea1 _ ea2
  subst ea1 ea2
  obtain ⟨pb, cb, eb, -, hlb, hatb⟩ := h2.sl_all
  injection eb with eb1 _ eb2
  subst eb1 eb2
  have HA := hide hata
  have HB := hide hatb
  clear hata hatb h1 h2
  obtain ⟨w2, hw2⟩ : ∃ w2, (w.alloc (.cells #[.int .i64 n, .int .i64 ins, .int .i64 outs, .slice p m cc] 33)).alloc (.cells #[.slice q0 l0 k0, .slice q1 c.out.length k1, .slice q2 c.calm.length k2] 60) = w2 := ⟨_, rfl⟩
  have HE : Hid (Ext w w2) := by show Ext _ _; rw [← hw2]; exact ((Ext.refl w).alloc _).alloc _
  have HT : Hid (TBox w2 w.heap.size (.int .i64 n) (.int .i64 ins) (.int .i64 outs) (.slice p m cc)) := by
    show _ = _
    rw [← hw2]; exact (Below.heap_alloc _ _ _ (by simp)).trans (heap_alloc_new w _)
  have HC : Hid (CBox w2 (w.heap.size + 1) (.slice q0 l0 k0) (.slice q1 c.out.length k1) (.slice q2 c.calm.length k2)) := by
    show _ = _
    rw [← hw2]; have := heap_alloc_new (w.alloc (.cells #[.int .i64 n, .int .i64 ins, .int .i64 outs, .slice p m cc] 33)) (.cells #[.slice q0 l0 k0, .slice q1 c.out.length k1, .slice q2 c.calm.length k2] 60)
    rwa [World.size_alloc] at this
  have HW2 := hide hw2
  clear hw2
  generalize csE n outs c = res at HE0 HE1 HE2 HE3 ⊢
  generalize outE n outs c.out = oe at HE1 HE2 HE3 HO
  generalize calmE c.out c.calm = ce at HE2 HE3 HCA
  obtain ⟨c0, c1, c2, -, -, z1⟩ := HC.out.cells
  by_cases hb1 : c.out.length < 1
  · have HR := hide (HE0.out (.inl hb1))
    have hd : decide ((c.out.length : Int) < 1) = true := by rw [decide_eq_true_iff]; omega
    have hd' : decide (c.out.length < 1) = true := by rw [decide_eq_true_iff]; omega
    go_enter Tryz.func103, Tryz.ntmps103
    go_wp2_with fail
    rw [HW2.out]
    go_wp2_with fail
    go_ret
    exact ⟨ret_int HR.out.symm, HE.out⟩
  by_cases hb2 : 1024 < c.out.length
  · have HR := hide (HE0.out (.inr hb2))
    have hd : decide ((c.out.length : Int) < 1) = false := by rw [decide_eq_false_iff_not]; omega
    have hd' : decide (c.out.length < 1) = false := by rw [decide_eq_false_iff_not]; omega
    have hd2 : decide ((1024 : Int) < (c.out.length : Int)) = true := by rw [decide_eq_true_iff]; omega
    have hd2' : decide (1024 < c.out.length) = true := by rw [decide_eq_true_iff]; omega
    go_enter Tryz.func103, Tryz.ntmps103
    go_wp2_with fail
    rw [HW2.out]
    go_wp2_with fail
    go_ret
    exact ⟨ret_int HR.out.symm, HE.out⟩
  have HBD : Hid (¬ (c.out.length < 1 ∨ 1024 < c.out.length)) := fun h => h.elim hb1 hb2
  have hd : decide ((c.out.length : Int) < 1) = false := by rw [decide_eq_false_iff_not]; omega
  have hd' : decide (c.out.length < 1) = false := by rw [decide_eq_false_iff_not]; omega
  have hd2 : decide ((1024 : Int) < (c.out.length : Int)) = false := by rw [decide_eq_false_iff_not]; omega
  have hd2' : decide (1024 < c.out.length) = false := by rw [decide_eq_false_iff_not]; omega
  go_enter Tryz.func103, Tryz.ntmps103
  go_wp2_with fail
  rw [HW2.out]
  go_wp2_with fail
  clear hd hd' hd2 hd2' c0 c1 c2 z1
  go_loopw [23] (fun x wr => ∃ i : Nat, i ≤ c.out.length ∧ x = .int .i64 i ∧ Hid (∀ j, j < i → oe j = 0) ∧ Hid (Ext w2 wr)) (fun x _ => c.out.length - (intOf x).toNat)
  case atStart => exact ⟨0, by omega, rfl, fun j hj => by omega, Ext.refl _⟩
  case round =>
    obtain ⟨i, hi, rfl, HJ, HEr⟩ := hrel
    have HCr := hide (HC.out.ext HEr.out)
    obtain ⟨c0, c1, c2, -, -, z1⟩ := HCr.out.cells
    by_cases hlt : i < c.out.length
    · obtain ⟨b, o, rfl, hb, hat⟩ := HA.out (by omega)
      obtain ⟨q, d, hx, hrow, hlx⟩ := hat i hlt
      replace hx := hx _ (HE.out.trans HEr.out)
      have hbz := Nat.lt_of_lt_of_le hb (HE.out.trans HEr.out).size
      obtain ⟨t0, t1, t2, t3⟩ := (HT.out.ext HEr.out).cells
      have z0 := lt_of_heap (HT.out.ext HEr.out)
      have HV := hide (vector_any (c.out.getD i []) n outs _ wr (hrow.ext (HE.out.trans HEr.out)))
      have HOI := hide (HO.out i)
      have HR := hide (fun he => HE1.out i hlt HJ.out he HBD.out)
      have HN : Hid (oe i = 0 → ∀ j, j < i + 1 → oe j = 0) := fun h j hj => by
        by_cases e : j = i
        · subst e; exact h
        · exact HJ.out j (by omega)
      have HUI := hide (fun W (hW : Ext w W) => HU1.out i W hW hlt)
      clear hat hrow
      generalize vecE (c.out.getD i []) n outs = ve at HV HOI
      generalize (c.out.getD i []).length = lx at hx HV hlx
      generalize oe i = oi at HOI HR HN
      generalize unord c.out i = un at HOI HUI
      go_wp2_with fail
      refine HV.out.mono ?_
      rintro e W1 ⟨rfl, hE1⟩
      have HE1' := hide (HEr.out.trans hE1)
      clear hE1 t0 t1 t2 t3 z0 hx c0 c1 c2 z1
      obtain ⟨c0, c1, c2, -, -, z1⟩ := (HC.out.ext HE1'.out).cells
      by_cases hv0 : ve = 0
      case neg =>
        have hd : (ve != 0) = true := by simp [hv0]
        have HR2 := hide (HR.out (by rw [HOI.out, if_pos hv0]; exact hv0))
        have HOI2 := hide (HOI.out.trans (if_pos hv0))
        clear hv0
        go_wp2_with fail
        go_ret
        exact ⟨ret_int (by rw [HR2.out, HOI2.out]), HE.out.trans HE1'.out⟩
      case pos =>
      have hd : (ve != 0) = false := by simp [hv0]
      have HOI := hide (HOI.out.trans (if_neg (fun k => k hv0)))
      clear hv0
      go_wp2_with fail
      refine (HUI.out _ (HE.out.trans HE1'.out)).mono ?_
      rintro e W2 ⟨rfl, hE2⟩
      have HE2' := hide (HE1'.out.trans hE2)
      clear hE2 c0 c1 c2 z1 hd
      cases un
      · have HRN := hide (HN.out HOI.out)
        go_wp2_with fail
        go_roundw
        case rel => exact ⟨i + 1, by omega, by go_num, HRN.out, HE2'.out⟩
        case measure => simp [intOf]; omega
      · have HR2 := hide (HR.out (by rw [HOI.out]; decide))
        go_wp2_with fail
        go_ret
        exact ⟨ret_int (by rw [HR2.out, HOI.out]; rfl), HE.out.trans HE2'.out⟩
    · obtain rfl : i = c.out.length := by omega
      have HE2 := hide (HE2.out HJ.out)
      have HE3 := hide (HE3.out HJ.out)
      obtain ⟨wo, rfl⟩ : ∃ wo : World, wo = wr := ⟨_, rfl⟩
      go_wp2_with fail
      clear c0 c1 c2 z1
      go_loopw [45] (fun x wr => ∃ i : Nat, i ≤ c.calm.length ∧ x = .int .i64 i ∧ Hid (∀ j, j < i → ce j = 0) ∧ Hid (Ext w2 wr)) (fun x _ => c.calm.length - (intOf x).toNat)
      case atStart => exact ⟨0, by omega, rfl, fun j hj => by omega, HEr.out⟩
      case round =>
        clear HEr HJ HCr
        obtain ⟨i, hi, rfl, HJ, HEr⟩ := hrel
        obtain ⟨c0, c1, c2, -, -, z1⟩ := (HC.out.ext HEr.out).cells
        by_cases hlt : i < c.calm.length
        · obtain ⟨b, o, rfl, hb, hat⟩ := HB.out (by omega)
          obtain ⟨q, d, hx, hrow, hlx⟩ := hat i hlt
          replace hx := hx _ (HE.out.trans HEr.out)
          have hbz := Nat.lt_of_lt_of_le hb (HE.out.trans HEr.out).size
          have HV := hide (HH.out (c.calm.getD i []) _ wr (HE.out.trans HEr.out) (hrow.ext (HE.out.trans HEr.out)))
          have HOI := hide (HCA.out i)
          have HR := hide (fun he => HE2.out i hlt HJ.out he HBD.out)
          have HN : Hid (ce i = 0 → ∀ j, j < i + 1 → ce j = 0) := fun h j hj => by
            by_cases e : j = i
            · subst e; exact h
            · exact HJ.out j (by omega)
          have HUI := hide (fun W (hW : Ext w W) => HU2.out i W hW hlt)
          clear hat hrow
          generalize decide (c.calm.getD i [] ∈ c.out) = ve at HV HOI
          generalize (c.calm.getD i []).length = lx at hx HV hlx
          generalize ce i = oi at HOI HR HN
          generalize unord c.calm i = un at HOI HUI
          go_wp2_with fail
          refine HV.out.mono ?_
          rintro e W1 ⟨rfl, hE1⟩
          have HE1' := hide (HEr.out.trans hE1)
          clear hE1 hx c0 c1 c2 z1
          obtain ⟨c0, c1, c2, -, -, z1⟩ := (HC.out.ext HE1'.out).cells
          cases ve
          · have HR2 := hide (HR.out (by rw [HOI.out, if_pos rfl]; decide))
            go_wp2_with fail
            go_ret
            exact ⟨ret_int (by rw [HR2.out, HOI.out]; rfl), HE.out.trans HE1'.out⟩
          · go_wp2_with fail
            refine (HUI.out _ (HE.out.trans HE1'.out)).mono ?_
            rintro e W2 ⟨rfl, hE2⟩
            have HE2' := hide (HE1'.out.trans hE2)
            clear hE2 c0 c1 c2 z1
            cases un
            · have HRN := hide (HN.out HOI.out)
              go_wp2_with fail
              go_roundw
              case rel => exact ⟨i + 1, by omega, by go_num, HRN.out, HE2'.out⟩
              case measure => simp [intOf]; omega
            · have HR2 := hide (HR.out (by rw [HOI.out]; decide))
              go_wp2_with fail
              go_ret
              exact ⟨ret_int (by rw [HR2.out, HOI.out]; rfl), HE.out.trans HE2'.out⟩
        · obtain rfl : i = c.calm.length := by omega
          have HR := hide (HE3.out HJ.out HBD.out)
          go_wp2_with fail
          go_ret
          exact ⟨ret_int HR.out.symm, HE.out.trans HEr.out⟩
end Go.Proofs.YthkididgbaamcaaGreatDoor

namespace Go.Proofs.YthkididgbaamcaaGreatDoor
open Go.RowKit
attribute [local go_sem] Oper.semAt_some

set_option maxRecDepth 16000 in
set_option maxHeartbeats 2000000 in
theorem tcheck_bad (T : Tk) (p : Option Addr) (c : Nat) (w : World) (hb : T.n < 1 ∨ 5 < T.n ∨ T.ins < 1 ∨ 8 < T.ins ∨ T.outs < 1 ∨ 8 < T.outs) :
    Calls Tryz.prog 70 #[.agg #[.int .i64 T.n, .int .i64 T.ins, .int .i64 T.outs, .slice p T.cs.length c]] w fun e w' => e = .returned (.int .i64 2) ∧ Ext w w' := by
  obtain ⟨n, ins, outs, cs⟩ := T
  dsimp only at *
  have HE : Hid (Ext w (w.alloc (.cells #[.int .i64 n, .int .i64 ins, .int .i64 outs, .slice p cs.length c] 33))) := (Ext.refl w).alloc _
  have HB := hide hb
  clear hb
  cases h1 : decide (n < 1)
  case true =>
    go_enter Tryz.func70, Tryz.ntmps70
    go_wp2_with fail
    go_ret
    exact ⟨rfl, HE.out⟩
  cases h2 : decide (5 < n)
  case true =>
    go_enter Tryz.func70, Tryz.ntmps70
    go_wp2_with fail
    go_ret
    exact ⟨rfl, HE.out⟩
  cases h3 : decide (ins < 1)
  case true =>
    go_enter Tryz.func70, Tryz.ntmps70
    go_wp2_with fail
    go_ret
    exact ⟨rfl, HE.out⟩
  cases h4 : decide (8 < ins)
  case true =>
    go_enter Tryz.func70, Tryz.ntmps70
    go_wp2_with fail
    go_ret
    exact ⟨rfl, HE.out⟩
  cases h5 : decide (outs < 1)
  case true =>
    go_enter Tryz.func70, Tryz.ntmps70
    go_wp2_with fail
    go_ret
    exact ⟨rfl, HE.out⟩
  cases h6 : decide (8 < outs)
  case true =>
    go_enter Tryz.func70, Tryz.ntmps70
    go_wp2_with fail
    go_ret
    exact ⟨rfl, HE.out⟩
  simp only [decide_eq_false_iff_not] at h1 h2 h3 h4 h5 h6
  have := HB.out
  omega
set_option maxRecDepth 16000 in
set_option maxHeartbeats 2000000 in
theorem tcheck_any (T : Tk) (v : Value) (w : World) (hv : TkRep w v T) :
    Calls Tryz.prog 70 #[v] w fun e w' => e = .returned (.int .i64 (tkE T)) ∧ Ext w w' := by
  obtain ⟨p, c, rfl, hc, hl, hat⟩ := hv.all_
  by_cases hb : T.n < 1 ∨ 5 < T.n ∨ T.ins < 1 ∨ 8 < T.ins ∨ T.outs < 1 ∨ 8 < T.outs
  · have e : tkE T = 2 := if_pos hb
    rw [e]
    exact tcheck_bad T p c w hb
  have HR0 : Hid (tkE T = if T.cs.length < 1 ∨ 1024 < T.cs.length then 5 else firstErr (inE T) T.cs.length) := if_neg hb
  have HI : Hid (∀ i, inE T i = if vecE (T.cs.getD i default).inp T.n T.ins ≠ 0 then vecE (T.cs.getD i default).inp T.n T.ins
    else if decide (0 < i) && decide (0 ≤ ordL (T.cs.getD (i - 1) default).inp (T.cs.getD i default).inp) then 14 else csE T.n T.outs (T.cs.getD i default)) := fun i => rfl
  have HE1 : Hid (¬ (T.cs.length < 1 ∨ 1024 < T.cs.length) → ∀ i, i < T.cs.length → (∀ j, j < i → inE T j = 0) → inE T i ≠ 0 → tkE T = inE T i) := fun hb i hi hj he => by
    rw [HR0.out, if_neg hb]; exact firstErr_at hi hj he
  have HE2 : Hid (¬ (T.cs.length < 1 ∨ 1024 < T.cs.length) → (∀ i, i < T.cs.length → inE T i = 0) → tkE T = 0) := fun hb h => by
    rw [HR0.out, if_neg hb]; exact firstErr_end h
  have HE0 : Hid (T.cs.length < 1 ∨ 1024 < T.cs.length → tkE T = 5) := fun h => by rw [HR0.out, if_pos h]
  have HA := hide hat
  obtain ⟨n, ins, outs, cs⟩ := T
  dsimp only at *
  generalize tkE ⟨n, ins, outs, cs⟩ = res at HE0 HE1 HE2 ⊢
  generalize inE ⟨n, ins, outs, cs⟩ = ie at HE1 HE2 HI
  have h1 : decide (n < 1) = false := by rw [decide_eq_false_iff_not]; omega
  have h2 : decide (5 < n) = false := by rw [decide_eq_false_iff_not]; omega
  have h3 : decide (ins < 1) = false := by rw [decide_eq_false_iff_not]; omega
  have h4 : decide (8 < ins) = false := by rw [decide_eq_false_iff_not]; omega
  have h5 : decide (outs < 1) = false := by rw [decide_eq_false_iff_not]; omega
  have h6 : decide (8 < outs) = false := by rw [decide_eq_false_iff_not]; omega
  clear hb HR0 hat hv
  have HE : Hid (Ext w (w.alloc (.cells #[.int .i64 n, .int .i64 ins, .int .i64 outs, .slice p cs.length c] 33))) := (Ext.refl w).alloc _
  have HT : Hid (TBox (w.alloc (.cells #[.int .i64 n, .int .i64 ins, .int .i64 outs, .slice p cs.length c] 33)) w.heap.size (.int .i64 n) (.int .i64 ins) (.int .i64 outs) (.slice p cs.length c)) := heap_alloc_new w _
  generalize hw2 : w.alloc (.cells #[.int .i64 n, .int .i64 ins, .int .i64 outs, .slice p cs.length c] 33) = w2 at HE HT
  have HW2 := hide hw2
  clear hw2
  obtain ⟨t0, t1, t2, t3⟩ := HT.out.cells
  have z0 := lt_of_heap HT.out
  by_cases hb1 : cs.length < 1
  · have HR := hide (HE0.out (.inl hb1))
    have hd : decide ((cs.length : Int) < 1) = true := by rw [decide_eq_true_iff]; omega
    have hd' : decide (cs.length < 1) = true := by rw [decide_eq_true_iff]; omega
    go_enter Tryz.func70, Tryz.ntmps70
    go_wp2_with fail
    rw [HW2.out]
    go_wp2_with fail
    go_ret
    exact ⟨ret_int HR.out.symm, HE.out⟩
  by_cases hb2 : 1024 < cs.length
  · have HR := hide (HE0.out (.inr hb2))
    have hd : decide ((cs.length : Int) < 1) = false := by rw [decide_eq_false_iff_not]; omega
    have hd' : decide (cs.length < 1) = false := by rw [decide_eq_false_iff_not]; omega
    have hd2 : decide ((1024 : Int) < (cs.length : Int)) = true := by rw [decide_eq_true_iff]; omega
    have hd2' : decide (1024 < cs.length) = true := by rw [decide_eq_true_iff]; omega
    go_enter Tryz.func70, Tryz.ntmps70
    go_wp2_with fail
    rw [HW2.out]
    go_wp2_with fail
    go_ret
    exact ⟨ret_int HR.out.symm, HE.out⟩
  have HBD : Hid (¬ (cs.length < 1 ∨ 1024 < cs.length)) := fun h => h.elim hb1 hb2
  have HE1 := hide (HE1.out HBD.out)
  have HE2 := hide (HE2.out HBD.out)
  have hd : decide ((cs.length : Int) < 1) = false := by rw [decide_eq_false_iff_not]; omega
  have hd' : decide (cs.length < 1) = false := by rw [decide_eq_false_iff_not]; omega
  have hd2 : decide ((1024 : Int) < (cs.length : Int)) = false := by rw [decide_eq_false_iff_not]; omega
  have hd2' : decide (1024 < cs.length) = false := by rw [decide_eq_false_iff_not]; omega
  go_enter Tryz.func70, Tryz.ntmps70
  go_wp2_with fail
  rw [HW2.out]
  go_wp2_with fail
  clear hd hd' hd2 hd2' h1 h2 h3 h4 h5 h6 t0 t1 t2 t3 z0 HE0 HBD
  go_loopw [46] (fun x wr => ∃ i : Nat, i ≤ cs.length ∧ x = .int .i64 i ∧ Hid (∀ j, j < i → ie j = 0) ∧ Hid (Ext w2 wr)) (fun x _ => cs.length - (intOf x).toNat)
  case atStart => exact ⟨0, by omega, rfl, fun j hj => by omega, Ext.refl _⟩
  case round =>
    obtain ⟨i, hi, rfl, HJ, HEr⟩ := hrel
    by_cases hlt : i < cs.length
    · obtain ⟨b, o, rfl, hb, hat⟩ := HA.out (by omega)
      obtain ⟨q0, k0, q1, k1, q2, k2, hC⟩ := hat i hlt
      have HV := hide (fun W (hW : Ext w W) => vector_any (cs.getD i default).inp n ins _ W (hC.r0.ext hW))
      have HVS := hide (fun W (hW : Ext w W) => tvectors_any n ins outs (cs.getD i default) (some ⟨b, o, none⟩) cs.length c q0 (cs.getD i default).inp.length k0 q1 k1 q2 k2 W (hC.r1.ext hW) (hC.r2.ext hW))
      have HOI := hide (HI.out i)
      have HR := hide (fun he => HE1.out i hlt HJ.out he)
      have HN : Hid (ie i = 0 → ∀ j, j < i + 1 → ie j = 0) := fun h j hj => by
        by_cases e : j = i
        · subst e; exact h
        · exact HJ.out j (by omega)
      have HX := hide hC
      have HAT := hide hat
      have x0 := hC.c0 _ (HE.out.trans HEr.out)
      have x1 := hC.c1 _ (HE.out.trans HEr.out)
      have x2 := hC.c2 _ (HE.out.trans HEr.out)
      have hbz := Nat.lt_of_lt_of_le hb (HE.out.trans HEr.out).size
      have HBZ := hide hb
      clear hat hC hb
      generalize ie i = oi at HOI HR HN
      generalize vecE (cs.getD i default).inp n ins = ve at HV HOI
      generalize csE n outs (cs.getD i default) = ce at HVS HOI
      have HPV : Hid (∀ k, i = k + 1 → ∃ q d m, (∀ W, Ext w W → W.cell? ⟨b, o + k * 3, none⟩ = some (.slice q m d)) ∧ ∀ W, Ext w W → Calls Tryz.prog 49 #[.slice q m d, .slice q0 (cs.getD i default).inp.length k0] W fun e w' => e = .returned (.int .i64 (ordL (cs.getD k default).inp (cs.getD i default).inp)) ∧ Ext W w') := fun k hk => by
        obtain ⟨r0, l0, r1, l1, r2, l2, hD⟩ := HAT.out k (by omega)
        exact ⟨r0, l0, _, hD.c0, fun W hW => scmp_any _ _ _ _ W (hD.r0.ext hW) (HX.out.r0.ext hW)⟩
      clear HX HAT
      have HOI : Hid (oi = if ve ≠ 0 then ve else if (decide (0 < i) && decide (0 ≤ ordL (cs.getD (i - 1) default).inp (cs.getD i default).inp)) = true then 14 else ce) := HOI
      generalize cs.getD i default = x at *
      generalize x.inp.length = li at *
      generalize x.out.length = lo at *
      generalize x.calm.length = lc at *
      go_upto_region 10 with fail
      obtain ⟨w3, hw3⟩ : ∃ w3, wr.alloc (.cells #[.slice q0 li k0, .slice q1 lo k1, .slice q2 lc k2] 60) = w3 := ⟨_, rfl⟩
      have HC3 : Hid (CBox w3 wr.heap.size (.slice q0 li k0) (.slice q1 lo k1) (.slice q2 lc k2)) := by show _ = _; rw [← hw3]; exact heap_alloc_new wr _
      have HE3 : Hid (Ext w2 w3) := by show Ext _ _; rw [← hw3]; exact HEr.out.alloc _
      rw [hw3]
      clear hw3 x0 x1 x2 hbz
      generalize wr.heap.size = cb at HC3 ⊢
      obtain ⟨t0, t1, t2, t3⟩ := (HT.out.ext HE3.out).cells
      have z0 := lt_of_heap (HT.out.ext HE3.out)
      obtain ⟨c0, c1, c2, -, -, z1⟩ := HC3.out.cells
      go_wp2_with fail
      refine (HV.out _ (HE.out.trans HE3.out)).mono ?_
      rintro e W1 ⟨rfl, hE1⟩
      have HE4 := hide (HE3.out.trans hE1)
      have HC4 := hide (HC3.out.ext hE1)
      clear hE1 t0 t1 t2 t3 z0 c0 c1 c2 z1
      by_cases hv0 : ve = 0
      case neg =>
        have hd : (ve != 0) = true := by simp [hv0]
        have HOI2 := hide (HOI.out.trans (if_pos hv0))
        have HR2 := hide (HR.out (by rw [HOI2.out]; exact hv0))
        clear hv0
        go_wp2_with fail
        go_ret
        exact ⟨ret_int (by rw [HR2.out, HOI2.out]), HE.out.trans HE4.out⟩
      case pos =>
      have hd : (ve != 0) = false := by simp [hv0]
      have HOI := hide (HOI.out.trans (if_neg (fun k => k hv0)))
      clear hv0
      go_upto_region 13 with fail
      clear hd
      by_cases hi0 : i = 0
      · subst hi0
        have hdz : decide ((0 : Int) < ((0 : Nat) : Int)) = false := rfl
        have HOI := hide (HOI.out.trans (if_neg (by simp)))
        refine wp_region_ext (by kernel_rfl) (by kernel_rfl) ?_
        repeat (go_big_quiet_step (fail))
        refine wpQuiet_nil ?_
        rintro w9 ⟨⟨_, hE9⟩, rfl⟩
        have HE5 := hide (HE4.out.trans hE9)
        have HC5 := hide (HC4.out.ext hE9)
        clear hE9
        obtain ⟨t0, t1, t2, t3⟩ := (HT.out.ext HE5.out).cells
        have z0 := lt_of_heap (HT.out.ext HE5.out)
        obtain ⟨c0, c1, c2, -, -, z1⟩ := HC5.out.cells
        go_wp2_with fail
        refine (HVS.out _ (HE.out.trans HE5.out)).mono ?_
        rintro e W6 ⟨rfl, hE6⟩
        have HE6 := hide (HE5.out.trans hE6)
        clear hE6 t0 t1 t2 t3 z0 c0 c1 c2 z1
        by_cases hc0 : ce = 0
        · have hd : (ce != 0) = false := by simp [hc0]
          have HRN := hide (HN.out (HOI.out.trans hc0))
          clear hc0
          go_wp2_with fail
          go_roundw
          case rel => exact ⟨1, by omega, by go_num, HRN.out, HE6.out⟩
          case measure => simp [intOf]; omega
        · have hd : (ce != 0) = true := by simp [hc0]
          have HR2 := hide (HR.out (by rw [HOI.out]; exact hc0))
          clear hc0
          go_wp2_with fail
          go_ret
          exact ⟨ret_int (by rw [HR2.out, HOI.out]), HE.out.trans HE6.out⟩
      · obtain ⟨k, rfl⟩ : ∃ k, i = k + 1 := ⟨i - 1, by omega⟩
        obtain ⟨r0, d0, m0, hpx, hpc⟩ := HPV.out k rfl
        have HPC := hide hpc
        have HPX := hide hpx
        have HOI : Hid (oi = if decide (0 ≤ ordL (cs.getD k default).inp x.inp) = true then 14 else ce) := by
          show _ = _
          rw [HOI.out, show k + 1 - 1 = k by omega, show decide (0 < k + 1) = true by simp, Bool.true_and]
        clear hpc hpx HPV
        generalize ordL (cs.getD k default).inp x.inp = cc at HOI HPC
        have hk0 : (0 : Int) ≤ (k : Int) + 1 := by omega
        have hk1 : ((k : Int) + 1).toNat = k + 1 := by omega
        have hk2 : (k : Int) + 1 < (cs.length : Int) := by omega
        have hk3 : IntKind.i64.wrap ((k : Int) + 1 - 1) = (k : Int) := by rw [Int.add_sub_cancel]; exact IntWalk.i64_in _ (by omega)
        have hk4 : (k : Int) < (cs.length : Int) := by omega
        have hdz : decide ((0 : Int) < (k : Int) + 1) = true := by rw [decide_eq_true_iff]; omega
        have hpx := HPX.out _ (HE.out.trans HE4.out)
        have hbz := Nat.lt_of_lt_of_le HBZ.out (HE.out.trans HE4.out).size
        obtain ⟨t0, t1, t2, t3⟩ := (HT.out.ext HE4.out).cells
        have z0 := lt_of_heap (HT.out.ext HE4.out)
        obtain ⟨c0, c1, c2, -, -, z1⟩ := HC4.out.cells
        refine wp_region_ext (by kernel_rfl) (by kernel_rfl) ?_
        repeat (go_big_quiet_step ((go_at_call 49; exact Calls.ext_of (HPC.out _ (by simp [go_sem, HE.out.trans HE4.out])))))
        refine wpQuiet_nil ?_
        rintro w9 ⟨⟨_, hE9⟩, rfl⟩
        have HE5 := hide (HE4.out.trans hE9)
        have HC5 := hide (HC4.out.ext hE9)
        clear hE9 t0 t1 t2 t3 z0 c0 c1 c2 z1 hpx hbz hk3
        cases hcc : decide (0 ≤ cc)
        · have HOI := hide (HOI.out.trans (if_neg (by rw [hcc]; decide)))
          obtain ⟨t0, t1, t2, t3⟩ := (HT.out.ext HE5.out).cells
          have z0 := lt_of_heap (HT.out.ext HE5.out)
          obtain ⟨c0, c1, c2, -, -, z1⟩ := HC5.out.cells
          go_wp2_with fail
          refine (HVS.out _ (HE.out.trans HE5.out)).mono ?_
          rintro e W6 ⟨rfl, hE6⟩
          have HE6 := hide (HE5.out.trans hE6)
          clear hE6 t0 t1 t2 t3 z0 c0 c1 c2 z1
          by_cases hc0 : ce = 0
          · have hd : (ce != 0) = false := by simp [hc0]
            have HRN := hide (HN.out (HOI.out.trans hc0))
            clear hc0
            go_wp2_with fail
            go_roundw
            case rel => exact ⟨k + 1 + 1, by omega, by go_num, HRN.out, HE6.out⟩
            case measure => simp [intOf]; omega
          · have hd : (ce != 0) = true := by simp [hc0]
            have HR2 := hide (HR.out (by rw [HOI.out]; exact hc0))
            clear hc0
            go_wp2_with fail
            go_ret
            exact ⟨ret_int (by rw [HR2.out, HOI.out]), HE.out.trans HE6.out⟩
        · have HOI := hide (HOI.out.trans (if_pos hcc))
          have HR2 := hide (HR.out (by rw [HOI.out]; decide))
          go_wp2_with fail
          go_ret
          exact ⟨ret_int (by rw [HR2.out, HOI.out]), HE.out.trans HE5.out⟩
    · obtain rfl : i = cs.length := by omega
      have HR := hide (HE2.out HJ.out)
      go_wp2_with fail
      go_ret
      exact ⟨ret_int HR.out.symm, HE.out.trans HEr.out⟩
end Go.Proofs.YthkididgbaamcaaGreatDoor
