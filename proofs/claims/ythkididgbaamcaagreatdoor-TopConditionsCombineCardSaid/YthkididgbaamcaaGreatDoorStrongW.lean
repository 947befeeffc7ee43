/-
  The program's relate.Stronger.
  Conditions: none.
-/
import Derived.Test.YthkididgbaamcaaGreatDoorStrongP
namespace Go.Proofs.YthkididgbaamcaaGreatDoor
open Go.RowKit
attribute [local go_sem] Oper.semAt_some

/-- What Stronger returns: an input, faulty processes, outputs, whether the one is stronger, an error. -/
def strR (S T : Tk) : List Int × Nat × List Int × Bool × Int :=
  if pairE S T ≠ 0 then ([], 0, [], false, pairE S T) else match strS S T with | some (x, f, o) => (x, f, o, false, 0) | none => ([], 0, [], true, 0)
def StrRet (r : List Int × Nat × List Int × Bool × Int) (w : World) (e : Ending) (w' : World) : Prop :=
  ∃ u1 u2, e = .returned (.tuple #[u1, .int .i64 r.2.1, u2, .bool r.2.2.2.1, .int .i64 r.2.2.2.2]) ∧ Row icells 1 w' u1 r.1 ∧ Row icells 1 w' u2 r.2.2.1 ∧ Ext w w'
theorem pairE_ok {S T : Tk} (h : pairE S T = 0) : tkE S = 0 ∧ tkE T = 0 ∧ S.n = T.n := by
  unfold pairE at h
  by_cases h1 : tkE S = 0
  · rw [if_neg (fun k => k h1)] at h
    by_cases h2 : tkE T = 0
    · rw [if_neg (fun k => k h2)] at h
      by_cases h3 : S.n = T.n
      · exact ⟨h1, h2, h3⟩
      · rw [if_pos h3] at h; exact absurd h (by decide)
    · rw [if_pos h2] at h; exact absurd h h2
  · rw [if_pos h1] at h; exact absurd h h1
/-- Vectors of well-formed cases. -/
theorem allowed_at {n m : Int} {c : Cs} (h : csE n m c = 0) (f : Int) : ∀ i, i < (allowedL c f).length → (((allowedL c f).getD i []).length : Int) = n := allowed_len h f
theorem cloneR_any (l : List Int) (v : Value) (w : World) (hl : Row icells 1 w v l) (h0 : 0 < l.length) (hlen : l.length ≤ 100000) :
    Calls Tryz.prog 33 #[v] w fun e w' => (∃ u, e = .returned u ∧ Own icells 1 w' w.heap.size 3 u l) ∧ Ext w w' := by
  have h := hl
  obtain ⟨p, c, rfl, _, _, h3⟩ := h
  obtain ⟨b, o, rfl, _⟩ := h3 h0
  exact cloneI_any l b o c w hl hlen
set_option maxRecDepth 16000 in
set_option maxHeartbeats 4000000 in
theorem pstronger_any (S T : Tk) (v u : Value) (w : World) (hv : TkRep w v S) (hu : TkRep w u T) :
    Calls Tryz.prog 15 #[v, u] w (StrRet (strR S T) w) := by
  have HPR := hide (fun W (hW : Ext w W) => ppair_any S T v u W (hv.ext hW) (hu.ext hW))
  obtain ⟨p, c, rfl, -, -, -⟩ := hv.all_
  obtain ⟨q, d, rfl, -, hTl, hat⟩ := hu.all_
  have HA := hide hat
  have HFD := hide (fun x u W (hW : Ext w W) (hx : Row icells 1 W u x) => pfind_any S x _ u W (hv.ext hW) hx)
  have HR1 : Hid (pairE S T ≠ 0 → strR S T = ([], 0, [], false, pairE S T)) := fun h => if_pos h
  have HR2 : Hid (pairE S T = 0 → ∀ k, k < T.cs.length → (∀ j, j < k → stC S (T.cs.getD j default) = none) → ∀ x f o, stC S (T.cs.getD k default) = some (x, f, o) → strR S T = (x, f, o, false, 0)) := fun h k hk hj x f o hs => by
    unfold strR
    rw [if_neg (fun k => k h), show strS S T = some (x, f, o) from findSome_at hk hj hs]
  have HR3 : Hid (pairE S T = 0 → (∀ j, j < T.cs.length → stC S (T.cs.getD j default) = none) → strR S T = ([], 0, [], true, 0)) := fun h hj => by
    unfold strR
    rw [if_neg (fun k => k h), show strS S T = none from findSome_none hj]
  have HOK := hide (fun h => pairE_ok (S := S) (T := T) h)
  generalize strR S T = res at HR1 HR2 HR3 ⊢
  generalize pairE S T = pe at HPR HR1 HR2 HR3 HOK
  clear hv hu hat
  obtain ⟨w2, hw2⟩ : ∃ w2, (w.alloc (.cells #[.int .i64 S.n, .int .i64 S.ins, .int .i64 S.outs, .slice p S.cs.length c] 33)).alloc (.cells #[.int .i64 T.n, .int .i64 T.ins, .int .i64 T.outs, .slice q T.cs.length d] 33) = w2 := ⟨_, rfl⟩
  have HE : Hid (Ext w w2) := by show Ext _ _; rw [← hw2]; exact ((Ext.refl w).alloc _).alloc _
  have HT : Hid (TBox w2 w.heap.size (.int .i64 S.n) (.int .i64 S.ins) (.int .i64 S.outs) (.slice p S.cs.length c)) := by
    show _ = _
    rw [← hw2, Below.heap_alloc _ _ _ (by simp)]
    exact heap_alloc_new w _
  have HU : Hid (TBox w2 (w.heap.size + 1) (.int .i64 T.n) (.int .i64 T.ins) (.int .i64 T.outs) (.slice q T.cs.length d)) := by
    show _ = _
    rw [← hw2]
    have := heap_alloc_new (w.alloc (.cells #[.int .i64 S.n, .int .i64 S.ins, .int .i64 S.outs, .slice p S.cs.length c] 33)) (.cells #[.int .i64 T.n, .int .i64 T.ins, .int .i64 T.outs, .slice q T.cs.length d] 33)
    rwa [World.size_alloc] at this
  have HW2 := hide hw2
  clear hw2
  obtain ⟨t0, t1, t2, t3⟩ := HT.out.cells
  have z0 := lt_of_heap HT.out
  obtain ⟨s0, s1, s2, s3⟩ := HU.out.cells
  have z1 := lt_of_heap HU.out
  go_enter Tryz.func15, Tryz.ntmps15
  go_wp2_with fail
  rw [HW2.out]
  go_wp2_with fail
  refine (HPR.out _ HE.out).mono ?_
  rintro e W1 ⟨rfl, hE1⟩
  have HE1 := hide (HE.out.trans hE1)
  have HT1 := hide (HT.out.ext hE1)
  have HU1 := hide (HU.out.ext hE1)
  clear hE1 t0 t1 t2 t3 z0 s0 s1 s2 s3 z1 HPR
  by_cases h0 : pe = 0
  case neg =>
    have hd : (pe != 0) = true := by simp [h0]
    have HR := hide (HR1.out h0)
    clear h0
    go_wp2_with fail
    refine bodyPost_ret (v := .tuple #[.slice none 0 0, .int .i64 0, .slice none 0 0, .bool false, .int .i64 pe]) (by simp [results, Tryz.results15, go_sem]) rfl ?_
    rw [HR.out]
    exact ⟨_, _, rfl, Row.nil _ _ _, Row.nil _ _ _, HE1.out⟩
  case pos =>
  have hd : (pe != 0) = false := by simp [h0]
  have HR2 := hide (HR2.out h0)
  have HR3 := hide (HR3.out h0)
  obtain ⟨hs1, hs2, hs3⟩ := HOK.out h0
  have HS1 := hide (tk_ok hs1)
  have HS2 := hide (tk_ok hs2)
  have HNN := hide hs3
  have HFOK := hide (fun x => fnd_ok hs1 (x := x))
  clear h0 hs1 hs2 hs3 HOK HR1
  obtain ⟨N, hN⟩ : ∃ N : Nat, S.n = (N : Int) := ⟨S.n.toNat, by have := HS1.out.n1; omega⟩
  have hTN : T.n = (N : Int) := by rw [← HNN.out]; exact hN
  rw [hN] at HT1 HFD
  have HSN := hide hN
  have HTN := hide hTN
  have hN1 : 1 ≤ N := by have := HS1.out.n1; omega
  have hN5 : N ≤ 5 := by have := HS1.out.n5; omega
  clear hN hTN
  have hTl2 : T.cs.length ≤ 1024 := HS2.out.l2
  obtain ⟨s0, s1, s2, s3⟩ := HU1.out.cells
  have z1 := lt_of_heap HU1.out
  clear hTl
  go_wp2_with fail
  clear s0 s1 s2 s3 z1
  go_loopw [26] (fun x wr => ∃ i : Nat, i ≤ T.cs.length ∧ x = .int .i64 i ∧ Hid (∀ j, j < i → stC S (T.cs.getD j default) = none) ∧ Hid (Ext W1 wr)) (fun x _ => T.cs.length - (intOf x).toNat)
  case atStart => exact ⟨0, by omega, rfl, fun j hj => by omega, Ext.refl _⟩
  case round =>
    obtain ⟨i, hi, rfl, HJ, HE2⟩ := hrel
    by_cases hlt : i < T.cs.length
    case neg =>
      obtain rfl : i = T.cs.length := by omega
      have HR := hide (HR3.out HJ.out)
      go_wp2_with fail
      refine bodyPost_ret (v := .tuple #[.slice none 0 0, .int .i64 0, .slice none 0 0, .bool true, .int .i64 0]) (by simp [results, Tryz.results15, go_sem]) rfl ?_
      rw [HR.out]
      exact ⟨_, _, rfl, Row.nil _ _ _, Row.nil _ _ _, HE1.out.trans HE2.out⟩
    case pos =>
    obtain ⟨b, o, rfl, hb, hat⟩ := HA.out (by omega)
    obtain ⟨q0, k0, q1, k1, q2, k2, hC⟩ := hat i hlt
    have HV := hide (HS2.out.at_ i hlt)
    have HFI : Hid (∀ x f o, stC S (T.cs.getD i default) = some (x, f, o) → res = (x, f, o, false, 0)) := HR2.out i hlt HJ.out
    have HNX : Hid (stC S (T.cs.getD i default) = none → ∀ j, j < i + 1 → stC S (T.cs.getD j default) = none) := fun h j hj => by
      by_cases e : j = i
      · subst e; exact h
      · exact HJ.out j (by omega)
    clear hat
    generalize T.cs.getD i default = ci at hC HV HFI HNX
    have hW : Ext w wr := HE1.out.trans HE2.out
    have x0 := hC.c0 _ hW
    have x1 := hC.c1 _ hW
    have x2 := hC.c2 _ hW
    have hbz := Nat.lt_of_lt_of_le hb hW.size
    have HX := hide hC
    obtain ⟨W3, hW3⟩ : ∃ W3, wr.alloc (.cells #[.slice q0 ci.inp.length k0, .slice q1 ci.out.length k1, .slice q2 ci.calm.length k2] 60) = W3 := ⟨_, rfl⟩
    have HE3 : Hid (Ext wr W3) := by show Ext _ _; rw [← hW3]; exact (Ext.refl _).alloc _
    have HB3 : Hid (CBox W3 wr.heap.size (.slice q0 ci.inp.length k0) (.slice q1 ci.out.length k1) (.slice q2 ci.calm.length k2)) := by show _ = _; rw [← hW3]; exact heap_alloc_new wr _
    have HW3 := hide hW3
    have hil : (ci.inp.length : Int) = N := by have := (vecE_zero HV.out.1).1; rw [HTN.out] at this; exact this
    obtain ⟨t0, t1, t2, t3⟩ := (HT1.out.ext HE2.out).cells
    have z0 := lt_of_heap (HT1.out.ext HE2.out)
    have HIL := hide hil
    have HFD2 := hide (HFD.out ci.inp (.slice q0 ci.inp.length k0) W3 (hW.trans HE3.out) (hC.r0.ext (hW.trans HE3.out)))
    clear hW hW3 hil hC hb
    go_wp2_with fail
    rw [HW3.out]
    refine HFD2.out.mono ?_
    rintro e W4 ⟨cx, y, rfl, hcx, hy, hE4⟩
    have HE4 := hide (HE3.out.trans hE4)
    have HCX := hide hcx
    obtain ⟨a0, m0, a1, m1, a2, m2, rfl, r0, r1, r2⟩ := hy
    have HB4 := hide (HB3.out.ext hE4)
    have HR0 := hide (And.intro r0 (And.intro r1 r2))
    obtain ⟨W5, hW5⟩ : ∃ W5, W4.alloc (.cells #[.slice a0 cx.inp.length m0, .slice a1 cx.out.length m1, .slice a2 cx.calm.length m2] 60) = W5 := ⟨_, rfl⟩
    have HE5 : Hid (Ext W4 W5) := by show Ext _ _; rw [← hW5]; exact (Ext.refl _).alloc _
    have HB5 : Hid (CBox W5 W4.heap.size (.slice a0 cx.inp.length m0) (.slice a1 cx.out.length m1) (.slice a2 cx.calm.length m2)) := by show _ = _; rw [← hW5]; exact heap_alloc_new W4 _
    have HW5 := hide hW5
    clear hE4 hcx r0 r1 r2 hW5 x0 x1 x2 hbz t0 t1 t2 t3 z0
    by_cases hf : 0 ≤ fnd S ci.inp
    case neg =>
      have hdd : decide (0 ≤ fnd S ci.inp) = false := decide_eq_false hf
      rw [hdd]
      have HRX := hide (HFI.out _ _ _ (stC_no (by omega)))
      have HCL := hide (cloneR_any ci.inp _ W5 (HX.out.r0.ext (HE1.out.trans (HE2.out.trans (HE4.out.trans HE5.out)))) (by have := HIL.out; omega) (by have := HIL.out; omega))
      obtain ⟨y0, y1, y2, -, -, yz⟩ := HB4.out.cells
      clear hf hdd
      go_wp2_with fail
      rw [HW5.out]
      refine HCL.out.mono ?_
      rintro e W6 ⟨⟨z, rfl, hz⟩, hE6⟩
      have HZ := hide (hz.row (by have := HIL.out; omega))
      obtain ⟨qz, kz, rfl⟩ := hz.sl
      clear y0 y1 y2 yz hz
      go_wp2_with fail
      refine bodyPost_ret (v := .tuple #[.slice qz ci.inp.length kz, .int .i64 0, .slice none 0 0, .bool false, .int .i64 0]) (by simp [results, Tryz.results15, go_sem]) rfl ?_
      rw [HRX.out]
      exact ⟨_, _, rfl, HZ.out, Row.nil _ _ _, (HE1.out.trans (HE2.out.trans (HE4.out.trans HE5.out))).trans hE6⟩
    case pos =>
    have hdd : decide (0 ≤ fnd S ci.inp) = true := decide_eq_true hf
    rw [hdd]
    have hSN : S.n.toNat = N := by rw [HSN.out, Int.toNat_natCast]
    have hlt' : ¬ fnd S ci.inp < 0 := by omega
    have HCE := hide (HCX.out hf).symm
    have HYES : Hid (∀ f v, stF cx ci (2 ^ N) = some (f, v) → res = (ci.inp, f, v, false, 0)) := fun f v h => HFI.out _ _ _ (stC_some hlt' (by rw [HCE.out, hSN]; exact h))
    have HNO : Hid (stF cx ci (2 ^ N) = none → ∀ j, j < i + 1 → stC S (T.cs.getD j default) = none) := fun h => HNX.out (stC_none hlt' (by rw [HCE.out, hSN]; exact h))
    have HCV : Hid (csE S.n S.outs cx = 0) := by
      have := (HS1.out.at_ _ (HFOK.out ci.inp hf).1).2
      rw [HCE.out] at this
      exact this
    obtain ⟨y0, y1, y2, -, -, yz⟩ := HB4.out.cells
    obtain ⟨t0, t1, t2, t3⟩ := (HT1.out.ext (HE2.out.trans HE4.out)).cells
    have z0 := lt_of_heap (HT1.out.ext (HE2.out.trans HE4.out))
    have hN64 : (N : Int) < 64 := by omega
    clear hf hdd hSN hlt' HCX
    go_wp2_with fail
    rw [HW5.out]
    obtain ⟨M, hM⟩ : ∃ M : Nat, 2 ^ N = M := ⟨_, rfl⟩
    have hM32 : M ≤ 32 := by
      obtain rfl | rfl | rfl | rfl | rfl : N = 1 ∨ N = 2 ∨ N = 3 ∨ N = 4 ∨ N = 5 := by omega
      all_goals (rw [← hM]; decide)
    rw [show wrap64 ((2 : Int) ^ N) = (M : Int) by
      rw [← hM]
      obtain rfl | rfl | rfl | rfl | rfl : N = 1 ∨ N = 2 ∨ N = 3 ∨ N = 4 ∨ N = 5 := by omega
      all_goals decide +kernel]
    have HYES := hide (show ∀ f v, f < M → (∀ j, j < f → stV cx ci j = none) → stV cx ci f = some v → res = (ci.inp, f, v, false, 0) from fun f v h1 h2 h3 => HYES.out f v (by rw [hM]; exact stF_at h1 h2 h3))
    have HNO := hide (show (∀ j, j < M → stV cx ci j = none) → ∀ j, j < i + 1 → stC S (T.cs.getD j default) = none from fun h => HNO.out (by rw [hM]; exact stF_none h))
    have HEW : Hid (Ext W1 W5) := HE2.out.trans (HE4.out.trans HE5.out)
    have HB4 := hide (HB4.out.ext HE5.out)
    have HLX : Hid (∀ (f : Nat) i, i < (allowedL cx f).length → ((allowedL cx f).getD i []).length = N) := fun f i hi => by
      have := allowed_len HCV.out f i hi
      rw [HSN.out] at this; omega
    have HLI : Hid (∀ (f : Nat) i, i < (allowedL ci f).length → ((allowedL ci f).getD i []).length = N) := fun f i hi => by
      have := allowed_len HV.out.2 f i hi
      rw [HTN.out] at this; omega
    have HMM := hide hM
    clear y0 y1 y2 yz t0 t1 t2 t3 z0 hN64 hM
    go_loopw [45] (fun x wr2 => ∃ f : Nat, f ≤ M ∧ x = .int .i64 f ∧ Hid (∀ j, j < f → stV cx ci j = none) ∧ Hid (Ext W5 wr2)) (fun x _ => M - (intOf x).toNat)
    case atStart => exact ⟨0, by omega, rfl, fun j hj => by omega, Ext.refl _⟩
    case round =>
      obtain ⟨f, hf, rfl, HJ2, HE6⟩ := hrel
      by_cases hfl : f < M
      case neg =>
        obtain rfl : f = M := by omega
        have HR := hide (HNO.out HJ2.out)
        go_wp2_with fail
        go_roundw
        case rel => exact ⟨i + 1, by omega, by go_num, HR.out, HEW.out.trans HE6.out⟩
        case measure => simp [intOf]; omega
      case pos =>
      have HYES := hide (fun v h => HYES.out f v hfl HJ2.out h)
      have HJ3 := hide (show stV cx ci f = none → ∀ j, j < f + 1 → stV cx ci j = none from fun h j hj => by
        by_cases e : j = f
        · subst e; exact h
        · exact HJ2.out j (by omega))
      obtain ⟨qv, kv, hrv, hcv⟩ := pvectors_fix cx f a0 cx.inp.length m0 a1 m1 a2 m2 W4 HR0.out.2.1 HR0.out.2.2
      have HCV1 := hide hcv
      have HRV := hide (hrv.ext (HE5.out.trans HE6.out))
      obtain ⟨_, _, _, -, hll, -⟩ := hrv.sl_all
      obtain ⟨x0, x1, x2, -, -, xz⟩ := (HB5.out.ext HE6.out).cells
      have HLX := hide (HLX.out f)
      have HLI := hide (HLI.out f)
      have HS1 : Hid (∀ v, stV cx ci f = some v → res = (ci.inp, f, v, false, 0)) := HYES.out
      have HFA : Hid (∀ k, k < (allowedL cx f).length → (∀ j, j < k → (!((allowedL ci f).any fun w => agreesB ((allowedL cx f).getD j []) w f)) = false) → (!((allowedL ci f).any fun w => agreesB ((allowedL cx f).getD k []) w f)) = true → res = (ci.inp, f, (allowedL cx f).getD k [], false, 0)) :=
        fun k hk hj hp => HS1.out _ (find_at_ (p := fun v => !((allowedL ci f).any fun w => agreesB v w f)) hk hj hp)
      have HFN : Hid ((∀ j, j < (allowedL cx f).length → (!((allowedL ci f).any fun w => agreesB ((allowedL cx f).getD j []) w f)) = false) → ∀ j, j < f + 1 → stV cx ci j = none) :=
        fun hj => HJ3.out (find_none_ (p := fun v => !((allowedL ci f).any fun w => agreesB v w f)) (d := []) hj)
      clear hrv hcv HS1 HJ3 HYES
      obtain ⟨L, hL⟩ : ∃ L, allowedL cx f = L := ⟨_, rfl⟩
      rw [hL] at HCV1 HRV hll HLX HFA HFN
      clear hL
      go_wp2_with fail
      refine (HCV1.out _).mono ?_
      rintro e W6 ⟨rfl, hE7⟩
      have HE7 := hide (HE6.out.trans hE7)
      have HRV := hide (HRV.out.ext hE7)
      clear x0 x1 x2 xz hE7
      go_wp2_with fail
      go_loopw [52] (fun x wr3 => ∃ m : Nat, m ≤ L.length ∧ x = .int .i64 m ∧ Hid (∀ j, j < m → (!((allowedL ci f).any fun w => agreesB (L.getD j []) w f)) = false) ∧ Hid (Ext W6 wr3)) (fun x _ => L.length - (intOf x).toNat)
      case atStart => exact ⟨0, by omega, rfl, fun j hj => by omega, Ext.refl _⟩
      case round =>
        obtain ⟨m, hm, rfl, HJ4, HE8⟩ := hrel
        by_cases hml : m < L.length
        case neg =>
          obtain rfl : m = L.length := by omega
          have HR := hide (HFN.out HJ4.out)
          go_wp2_with fail
          go_roundw
          case rel => exact ⟨f + 1, by omega, by go_num, HR.out, HE7.out.trans HE8.out⟩
          case measure => simp [intOf]; omega
        case pos =>
        have HN4 : Hid ((!((allowedL ci f).any fun w => agreesB (L.getD m []) w f)) = false → ∀ j, j < m + 1 → (!((allowedL ci f).any fun w => agreesB (L.getD j []) w f)) = false) := fun h j hj => by
          by_cases e : j = m
          · subst e; exact h
          · exact HJ4.out j (by omega)
        have HF4 := hide (HFA.out m hml HJ4.out)
        obtain ⟨p9, c9, e9, -, -, hat8⟩ := HRV.out.sl_all
        obtain ⟨bv, ov, hpv, hbv, hat9⟩ := hat8 (by omega)
        clear hat8
        injection e9 with e9 _ e10
        subst e9 e10 hpv
        obtain ⟨qe, ke, hce, hre, hle⟩ := hat9 m hml
        replace hce := hce _ HE8.out
        have hbv2 := Nat.lt_of_lt_of_le hbv HE8.out.size
        have hyl := HLX.out m hml
        have HRE := hide (hre.ext HE8.out)
        obtain ⟨x0, x1, x2, -, -, xz⟩ := (HB4.out.ext (HE7.out.trans HE8.out)).cells
        obtain ⟨qv2, kv2, hrv, hcv⟩ := pvectors_fix ci f q0 ci.inp.length k0 q1 k1 q2 k2 w HX.out.r1 HX.out.r2
        have HCI := hide hcv
        have HRI := hide hrv
        have HYL := hide hyl
        have HHE : Hid (Ext w wr) := HE1.out.trans (HEW.out.trans (HE7.out.trans HE8.out))
        have HAG := hide (fun W (hW : Ext w W) (hy : Row icells 1 W (.slice qe (L.getD m []).length ke) (L.getD m [])) => pagrees_any (allowedL ci f) (L.getD m []) f (.slice qv2 (allowedL ci f).length kv2) (.slice qe (L.getD m []).length ke) W (HRI.out.ext hW) hy (fun i hi => by rw [HLI.out i hi, HYL.out]; exact Nat.le_refl _) (by rw [HYL.out]; exact hN5) (by omega))
        generalize (allowedL ci f).length = ll at HCI HRI HAG
        generalize ((allowedL ci f).any fun w => agreesB (L.getD m []) w f) = r at HN4 HF4 HAG
        obtain ⟨y, hy⟩ : ∃ y, L.getD m [] = y := ⟨_, rfl⟩
        rw [hy] at HF4 HRE HYL HAG hce
        clear hat9 hre hle hyl hrv hcv hy hbv
        generalize hyn : y.length = yl at hce HAG HRE HYL
        have HYN := hide hyn
        clear hyn
        go_wp2_with fail
        refine (HCI.out _).mono ?_
        rintro e W7 ⟨rfl, hE9⟩
        have hE9' := hide hE9
        have HE9 := hide (HHE.out.trans hE9)
        have HRE2 := hide (HRE.out.ext hE9)
        clear hce hbv2 x0 x1 x2 xz
        go_wp2_with fail
        refine (HAG.out _ HE9.out HRE2.out).mono ?_
        rintro e W8 ⟨rfl, hE10⟩
        have hE10' := hide hE10
        have HE10 := hide (HE9.out.trans hE10)
        have HRE3 := hide (HRE2.out.ext hE10)
        cases r with
        | true =>
          have HR := hide (HN4.out rfl)
          go_wp2_with fail
          go_roundw
          case rel => exact ⟨m + 1, by omega, by go_num, HR.out, (HE8.out.trans hE9'.out).trans hE10'.out⟩
          case measure => simp [intOf]; omega
        | false =>
          have HR := hide (HF4.out rfl)
          obtain ⟨x0, x1, x2, -, -, xz⟩ := (HB4.out.ext (HE7.out.trans (HE8.out.trans (hE9'.out.trans hE10'.out)))).cells
          have HCL := hide (fun W (hW : Ext w W) => cloneR_any ci.inp _ W (HX.out.r0.ext hW) (by have := HIL.out; omega) (by have := HIL.out; omega))
          have HCY := hide (fun W (hW : Ext W8 W) => cloneR_any y (.slice qe yl ke) W (HRE3.out.ext hW) (by have := HYN.out; have := HYL.out; omega) (by have := HYN.out; have := HYL.out; omega))
          go_wp2_with fail
          refine (HCL.out _ HE10.out).mono ?_
          rintro e W9 ⟨⟨z, rfl, hz⟩, hE11⟩
          have HZ := hide (hz.row (by have := HIL.out; omega))
          obtain ⟨qz, kz, rfl⟩ := hz.sl
          have HE11 := hide hE11
          clear hz hE11 x0 x1 x2 xz
          go_wp2_with fail
          refine (HCY.out _ HE11.out).mono ?_
          rintro e W10 ⟨⟨z2, rfl, hz2⟩, hE12⟩
          have HZ2 := hide (hz2.row (by have := HYN.out; have := HYL.out; omega))
          obtain ⟨qz2, kz2, rfl⟩ := hz2.sl
          have HE12 := hide hE12
          clear hz2 hE12
          go_wp2_with fail
          refine bodyPost_ret (v := .tuple #[.slice qz ci.inp.length kz, .int .i64 f, .slice qz2 y.length kz2, .bool false, .int .i64 0]) (by simp [results, Tryz.results15, go_sem]) rfl ?_
          rw [HR.out]
          exact ⟨_, _, rfl, HZ.out.ext HE12.out, HZ2.out, HE10.out.trans (HE11.out.trans HE12.out)⟩
end Go.Proofs.YthkididgbaamcaaGreatDoor
