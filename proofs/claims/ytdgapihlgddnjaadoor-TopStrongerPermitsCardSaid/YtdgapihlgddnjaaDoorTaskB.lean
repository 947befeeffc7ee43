/-
  The program's layer 11 (task): Permitted, copied vectors and Allowed.
  Conditions: as each theorem states.
-/
import Derived.Test.YtdgapihlgddnjaaDoorTaskA
import Derived.Test.YtdgapihlgddnjaaDoorCloneI
import Derived.Test.YtdgapihlgddnjaaDoorGrAll
import Derived.Test.YtdgapihlgddnjaaDoorChoose
namespace Go.Proofs.YtdgapihlgddnjaaDoor
open Go.RowKit
attribute [local go_sem] Oper.semAt_some

theorem ordL_trans : ∀ {a b c : List Int}, ordL a b = -1 → ordL b c = -1 → ordL a c = -1
  | [], [], _, h, _ => by simp [ordL] at h
  | [], _ :: _, [], _, h => by simp [ordL] at h
  | [], _ :: _, _ :: _, _, _ => rfl
  | _ :: _, [], _, h, _ => by simp [ordL] at h
  | _ :: _, _ :: _, [], _, h => by simp [ordL] at h
  | x :: a, y :: b, z :: c, h1, h2 => by
    unfold ordL at h1 h2 ⊢
    by_cases e1 : x < y
    · by_cases e2 : y < z
      · rw [if_pos (by omega)]
      · rw [if_neg e2] at h2
        by_cases e3 : z < y
        · rw [if_pos e3] at h2; exact absurd h2 (by decide)
        · rw [if_pos (by omega)]
    · rw [if_neg e1] at h1
      by_cases e4 : y < x
      · rw [if_pos e4] at h1; exact absurd h1 (by decide)
      · rw [if_neg e4] at h1
        by_cases e2 : y < z
        · rw [if_pos (by omega)]
        · rw [if_neg e2] at h2
          by_cases e3 : z < y
          · rw [if_pos e3] at h2; exact absurd h2 (by decide)
          · rw [if_neg e3] at h2
            rw [if_neg (by omega), if_neg (by omega)]
            exact ordL_trans h1 h2
theorem ordL_swap : ∀ (a b : List Int), ordL b a = -ordL a b
  | [], [] => rfl
  | [], _ :: _ => rfl
  | _ :: _, [] => rfl
  | x :: a, y :: b => by
    unfold ordL
    by_cases e1 : x < y
    · rw [if_pos e1, if_neg (by omega), if_pos e1]; rfl
    · by_cases e2 : y < x
      · rw [if_pos e2, if_neg e1, if_pos e2]
      · rw [if_neg e2, if_neg e1, if_neg e1, if_neg e2]
        exact ordL_swap a b
/-- A task without an error. -/
structure TkOk (T : Tk) : Prop where
  n1 : 1 ≤ T.n
  n5 : T.n ≤ 5
  i1 : 1 ≤ T.ins
  i8 : T.ins ≤ 8
  o1 : 1 ≤ T.outs
  o8 : T.outs ≤ 8
  l1 : 1 ≤ T.cs.length
  l2 : T.cs.length ≤ 1024
  at_ : ∀ i, i < T.cs.length → vecE (T.cs.getD i default).inp T.n T.ins = 0 ∧ csE T.n T.outs (T.cs.getD i default) = 0
  asc : ∀ i, i + 1 < T.cs.length → ordL (T.cs.getD i default).inp (T.cs.getD (i + 1) default).inp = -1
theorem tk_ok {T : Tk} (h : tkE T = 0) : TkOk T := by
  unfold tkE at h
  by_cases h1 : T.n < 1 ∨ 5 < T.n ∨ T.ins < 1 ∨ 8 < T.ins ∨ T.outs < 1 ∨ 8 < T.outs
  · rw [if_pos h1] at h; exact absurd h (by decide)
  rw [if_neg h1] at h
  by_cases h2 : T.cs.length < 1 ∨ 1024 < T.cs.length
  · rw [if_pos h2] at h; exact absurd h (by decide)
  rw [if_neg h2] at h
  have hi := firstErr_zero.1 h
  have key : ∀ i, i < T.cs.length → vecE (T.cs.getD i default).inp T.n T.ins = 0 ∧ (decide (0 < i) && decide (0 ≤ ordL (T.cs.getD (i - 1) default).inp (T.cs.getD i default).inp)) = false ∧ csE T.n T.outs (T.cs.getD i default) = 0 := fun i hlt => by
    have := hi i hlt
    unfold inE at this
    by_cases k1 : vecE (T.cs.getD i default).inp T.n T.ins = 0
    · rw [if_neg (fun k => k k1)] at this
      cases k2 : (decide (0 < i) && decide (0 ≤ ordL (T.cs.getD (i - 1) default).inp (T.cs.getD i default).inp))
      · rw [k2, if_neg (by decide)] at this
        exact ⟨k1, rfl, this⟩
      · rw [k2, if_pos rfl] at this; exact absurd this (by decide)
    · rw [if_pos k1] at this; exact absurd this k1
  refine ⟨by omega, by omega, by omega, by omega, by omega, by omega, by omega, by omega, fun i hlt => ⟨(key i hlt).1, (key i hlt).2.2⟩, fun i hlt => ?_⟩
  have := (key (i + 1) hlt).2.1
  rw [show i + 1 - 1 = i by omega, show decide (0 < i + 1) = true by simp, Bool.true_and, decide_eq_false_iff_not] at this
  rcases ordL_cases (T.cs.getD i default).inp (T.cs.getD (i + 1) default).inp with h | h | h
  · exact h
  · omega
  · omega
theorem TkOk.lt {T : Tk} (h : TkOk T) : ∀ {i j : Nat}, i < j → j < T.cs.length → ordL (T.cs.getD i default).inp (T.cs.getD j default).inp = -1 := by
  intro i j
  induction j with
  | zero => intro h; omega
  | succ j ih =>
    intro h1 h2
    by_cases e : i = j
    · subst e; exact h.asc i h2
    · exact ordL_trans (ih (by omega) (by omega)) (h.asc j h2)
/-- The index of the case of an input vector, or -1. -/
def fnd (T : Tk) (x : List Int) : Int := firstAt (fun i => decide ((T.cs.getD i default).inp = x)) T.cs.length
theorem fnd_at {T : Tk} (h : TkOk T) {x : List Int} {k : Nat} (hk : k < T.cs.length) (he : (T.cs.getD k default).inp = x) : fnd T x = k :=
  firstAt_at (P := fun i => decide ((T.cs.getD i default).inp = x)) hk (fun i hi => decide_eq_false (fun e => by
    have := h.lt hi hk
    rw [e, ← he] at this
    rw [ordL_zero.2 rfl] at this
    exact absurd this (by decide))) (decide_eq_true he)
theorem fnd_none {T : Tk} {x : List Int} (h : ∀ i, i < T.cs.length → (T.cs.getD i default).inp ≠ x) : fnd T x = -1 :=
  firstAt_none fun i hi => decide_eq_false (h i hi)
def findS (T : Tk) (x : List Int) : Int × Int := if tkE T ≠ 0 then (0, tkE T) else if 0 ≤ fnd T x then (fnd T x, 0) else (0, 6)
/-- What a binary search knows: below i all are lesser, from j on none is. -/
structure Bis (T : Tk) (x : List Int) (i j : Nat) : Prop where
  le : i ≤ j
  len : j ≤ T.cs.length
  lo : ∀ m, m < i → ordL (T.cs.getD m default).inp x = -1
  hi : ∀ m, j ≤ m → m < T.cs.length → 0 ≤ ordL (T.cs.getD m default).inp x
theorem Bis.start (T : Tk) (x : List Int) : Bis T x 0 T.cs.length := ⟨by omega, by omega, fun m h => by omega, fun m h1 h2 => by omega⟩
theorem Bis.up {T : Tk} (h : TkOk T) {x : List Int} {i j m : Nat} (hb : Bis T x i j) (h1 : i ≤ m) (h2 : m < j) (hc : ordL (T.cs.getD m default).inp x < 0) : Bis T x (m + 1) j := by
  have hc' : ordL (T.cs.getD m default).inp x = -1 := by
    rcases ordL_cases (T.cs.getD m default).inp x with h | h | h <;> omega
  refine ⟨by omega, hb.len, fun k hk => ?_, hb.hi⟩
  by_cases e : k = m
  · subst e; exact hc'
  · exact ordL_trans (h.lt (show k < m by omega) (by have := hb.len; omega)) hc'
theorem Bis.down {T : Tk} (h : TkOk T) {x : List Int} {i j m : Nat} (hb : Bis T x i j) (h1 : i ≤ m) (h2 : m < j) (hc : 0 ≤ ordL (T.cs.getD m default).inp x) : Bis T x i m := by
  refine ⟨by omega, by have := hb.len; omega, hb.lo, fun k hk hl => ?_⟩
  by_cases e : k = m
  · subst e; exact hc
  · have hlt := h.lt (show m < k by omega) hl
    rcases ordL_cases (T.cs.getD k default).inp x with h | h | h
    · have := ordL_trans hlt h; omega
    · omega
    · omega
theorem Bis.found {T : Tk} (h : TkOk T) {x : List Int} {i : Nat} (_hb : Bis T x i i) (hl : i < T.cs.length) (hc : ordL (T.cs.getD i default).inp x = 0) : fnd T x = i :=
  fnd_at h hl (ordL_zero.1 hc)
theorem Bis.none_ {T : Tk} (h : TkOk T) {x : List Int} {i : Nat} (hb : Bis T x i i) (hc : i < T.cs.length → ordL (T.cs.getD i default).inp x ≠ 0) : fnd T x = -1 := by
  refine fnd_none fun k hk e => ?_
  have h0 : ordL (T.cs.getD k default).inp x = 0 := ordL_zero.2 e
  by_cases h1 : k < i
  · have := hb.lo k h1; omega
  · by_cases h2 : k = i
    · subst h2; exact hc hk h0
    · have hi := hb.hi i (Nat.le_refl _) (by omega)
      have := h.lt (show i < k by omega) hk
      rw [e] at this
      omega
theorem find1_any (c : Cs) (x : List Int) (q0 : Option Addr) (k0 : Nat) (s1 s2 u : Value) (w : World) (h0 : Row icells 1 w (.slice q0 c.inp.length k0) c.inp) (hx : Row icells 1 w u x) :
    Calls Tryd.prog 59 #[.agg #[.slice q0 c.inp.length k0, s1, s2], u] w fun e w' => e = .returned (.int .i64 (ordL c.inp x)) ∧ Ext w w' := by
  have HE : Hid (Ext w (w.alloc (.cells #[.slice q0 c.inp.length k0, s1, s2] 53))) := (Ext.refl w).alloc _
  have HC := hide (scmp_any c.inp x _ u _ (h0.ext HE.out) (hx.ext HE.out))
  obtain ⟨p, d, rfl, -⟩ := hx.int_all
  clear h0 hx
  generalize c.inp.length = l at *
  go_enter Tryd.func59, Tryd.ntmps59
  go_wp2_with fail
  refine HC.out.mono ?_
  rintro e w1 ⟨rfl, hE1⟩
  go_wp2_with fail
  go_ret
  exact ⟨rfl, HE.out.trans hE1⟩
set_option maxRecDepth 16000 in
set_option maxHeartbeats 2000000 in
theorem bsearch_any (T : Tk) (x : List Int) (p : Option Addr) (c : Nat) (u : Value) (w : World) (hT : TkOk T) (hv : TkRep w (.agg #[.int .i64 T.n, .int .i64 T.ins, .int .i64 T.outs, .slice p T.cs.length c]) T) (hx : Row icells 1 w u x) :
    Calls Tryd.prog 58 #[.slice p T.cs.length c, u, .func (.func 59) #[] #[]] w fun e w' => ∃ k : Int, e = .returned (.tuple #[.int .i64 k, .bool (decide (0 ≤ fnd T x))]) ∧ (0 ≤ fnd T x → k = fnd T x) ∧ Ext w w' := by
  obtain ⟨p', c', e, -, hl, hat⟩ := hv.all_
  have e2 : Value.slice p T.cs.length c = .slice p' T.cs.length c' := by
    injection e with e
    have := congrArg (fun a : Array Value => a[3]?) e
    simpa using this
  injection e2 with e3 _ e4
  subst e3 e4
  have HA := hide hat
  have HF := hide (fun i (hi : i < T.cs.length) b o q0 k0 q1 k1 q2 k2 (hC : CsAt w b o (T.cs.getD i default) q0 k0 q1 k1 q2 k2) W (hW : Ext w W) => find1_any (T.cs.getD i default) x q0 k0 (.slice q1 (T.cs.getD i default).out.length k1) (.slice q2 (T.cs.getD i default).calm.length k2) u W (hC.r0.ext hW) (hx.ext hW))
  have HUP := hide (fun i j m (hb : Bis T x i j) => Bis.up hT (m := m) hb)
  have HDN := hide (fun i j m (hb : Bis T x i j) => Bis.down hT (m := m) hb)
  have HFD := hide (fun i (hb : Bis T x i i) => Bis.found hT hb)
  have HNO := hide (fun i (hb : Bis T x i i) => Bis.none_ hT hb)
  have hl2 : T.cs.length ≤ 1024 := hT.l2
  have HST := hide (Bis.start T x)
  obtain ⟨qx, kx, rfl, -⟩ := hx.int_all
  clear hat hv hx hl
  generalize fnd T x = res at HFD HNO ⊢
  go_enter Tryd.func58, Tryd.ntmps58
  go_wp2_with fail
  go_loopw [9, 10] (fun s t wr => ∃ i j : Nat, s = .int .i64 i ∧ t = .int .i64 j ∧ i ≤ j ∧ j ≤ T.cs.length ∧ Hid (Bis T x i j) ∧ Hid (Ext w wr)) (fun s t _ => (intOf t).toNat - (intOf s).toNat)
  case atStart => exact ⟨0, _, rfl, rfl, by omega, by omega, HST.out, Ext.refl _⟩
  case round =>
    obtain ⟨i, j, rfl, rfl, hij, hjl, HB, HE⟩ := hrel
    by_cases hlt : i < j
    · have hm1 : i ≤ (i + j) / 2 := by omega
      have hm2 : (i + j) / 2 < j := by omega
      obtain ⟨b, o, rfl, hb, hat⟩ := HA.out (by omega)
      obtain ⟨q0, k0, q1, k1, q2, k2, hC⟩ := hat ((i + j) / 2) (by omega)
      have HC := hide (fun W (hW : Ext w W) => HF.out ((i + j) / 2) (by omega) b _ q0 k0 q1 k1 q2 k2 hC W hW)
      have x0 := hC.c0 _ HE.out
      have x1 := hC.c1 _ HE.out
      have x2 := hC.c2 _ HE.out
      have hbz := Nat.lt_of_lt_of_le hb HE.out.size
      have HU := hide (HUP.out i j ((i + j) / 2) HB.out hm1 hm2)
      have HD := hide (HDN.out i j ((i + j) / 2) HB.out hm1 hm2)
      clear hat hC
      generalize ordL (T.cs.getD ((i + j) / 2) default).inp x = cc at HC HU HD
      generalize (T.cs.getD ((i + j) / 2) default).inp.length = li at *
      generalize (T.cs.getD ((i + j) / 2) default).out.length = lo at *
      generalize (T.cs.getD ((i + j) / 2) default).calm.length = lc at *
      go_upto_region 5 with fail
      rw [show ((i : Int) + (j : Int)) / 2 = (((i + j) / 2 : Nat) : Int) by omega]
      generalize (i + j) / 2 = m at *
      have hml : m < T.cs.length := by omega
      go_wp2_with fail
      refine (HC.out _ HE.out).mono ?_
      rintro e W1 ⟨rfl, hE1⟩
      have HE1 := hide (HE.out.trans hE1)
      clear hE1 x0 x1 x2 hbz
      by_cases hc0 : cc < 0
      · have hd : decide (cc < 0) = true := decide_eq_true hc0
        have HB1 := hide (HU.out hc0)
        clear hc0
        go_wp2_with fail
        go_roundw
        case rel => exact ⟨m + 1, j, by go_num, rfl, by omega, by omega, HB1.out, HE1.out⟩
        case measure => simp [intOf]; omega
      · have hd : decide (cc < 0) = false := decide_eq_false hc0
        have HB1 := hide (HD.out (by omega))
        clear hc0
        go_wp2_with fail
        go_roundw
        case rel => exact ⟨i, m, rfl, rfl, by omega, by omega, HB1.out, HE1.out⟩
        case measure => simp [intOf]; omega
    · obtain rfl : i = j := by omega
      by_cases hil : i < T.cs.length
      · obtain ⟨b, o, rfl, hb, hat⟩ := HA.out (by omega)
        obtain ⟨q0, k0, q1, k1, q2, k2, hC⟩ := hat i hil
        have HC := hide (fun W (hW : Ext w W) => HF.out i hil b _ q0 k0 q1 k1 q2 k2 hC W hW)
        have x0 := hC.c0 _ HE.out
        have x1 := hC.c1 _ HE.out
        have x2 := hC.c2 _ HE.out
        have hbz := Nat.lt_of_lt_of_le hb HE.out.size
        have HU := hide (HFD.out i HB.out hil)
        have HD := hide (fun h => HNO.out i HB.out (fun _ => h))
        clear hat hC
        generalize ordL (T.cs.getD i default).inp x = cc at HC HU HD
        generalize (T.cs.getD i default).inp.length = li at *
        generalize (T.cs.getD i default).out.length = lo at *
        generalize (T.cs.getD i default).calm.length = lc at *
        go_wp2_with fail
        refine (HC.out _ HE.out).mono ?_
        rintro e W1 ⟨rfl, hE1⟩
        have HE1 := hide (HE.out.trans hE1)
        clear hE1 x0 x1 x2 hbz
        by_cases hc0 : cc = 0
        · have hd : (cc == 0) = true := by simp [hc0]
          have HR := hide (HU.out hc0)
          clear hc0
          go_wp2_with fail
          go_ret2
          exact ⟨i, by rw [HR.out, show decide ((0 : Int) ≤ (i : Int)) = true by simp]; rfl, fun _ => HR.out.symm, HE1.out⟩
        · have hd : (cc == 0) = false := by simp [hc0]
          have HR := hide (HD.out hc0)
          clear hc0
          go_wp2_with fail
          go_ret2
          exact ⟨i, by rw [HR.out]; rfl, fun h => by rw [HR.out] at h; exact absurd h (by decide), HE1.out⟩
      · have HR := hide (HNO.out i HB.out (fun h => absurd h hil))
        go_wp2_with fail
        go_ret2
        exact ⟨i, by rw [HR.out]; rfl, fun h => by rw [HR.out] at h; exact absurd h (by decide), HE.out⟩
set_option maxRecDepth 16000 in
set_option maxHeartbeats 2000000 in
theorem find_any (T : Tk) (x : List Int) (v u : Value) (w : World) (hv : TkRep w v T) (hx : Row icells 1 w u x) :
    Calls Tryd.prog 15 #[v, u] w fun e w' => e = .returned (.tuple #[.int .i64 (findS T x).1, .int .i64 (findS T x).2]) ∧ Ext w w' := by
  have HCK := hide (fun W (hW : Ext w W) => tcheck_any T v W (hv.ext hW))
  obtain ⟨p, c, rfl, -, -, -⟩ := hv.all_
  have HBS := hide (fun hT W (hW : Ext w W) => bsearch_any T x p c u W hT (hv.ext hW) (hx.ext hW))
  obtain ⟨qx, kx, rfl, -⟩ := hx.int_all
  have HR1 : Hid (tkE T ≠ 0 → findS T x = (0, tkE T)) := fun h => if_pos h
  have HR2 : Hid (tkE T = 0 → 0 ≤ fnd T x → findS T x = (fnd T x, 0)) := fun h h2 => (if_neg (fun k => k h)).trans (if_pos h2)
  have HR3 : Hid (tkE T = 0 → ¬ 0 ≤ fnd T x → findS T x = (0, 6)) := fun h h2 => (if_neg (fun k => k h)).trans (if_neg h2)
  have HOK := hide (tk_ok (T := T))
  generalize findS T x = res at HR1 HR2 HR3 ⊢
  generalize tkE T = te at HCK HR1 HR2 HR3 HOK
  clear hv hx
  have HE : Hid (Ext w (w.alloc (.cells #[.int .i64 T.n, .int .i64 T.ins, .int .i64 T.outs, .slice p T.cs.length c] 24))) := (Ext.refl w).alloc _
  have HT : Hid (TBox (w.alloc (.cells #[.int .i64 T.n, .int .i64 T.ins, .int .i64 T.outs, .slice p T.cs.length c] 24)) w.heap.size (.int .i64 T.n) (.int .i64 T.ins) (.int .i64 T.outs) (.slice p T.cs.length c)) := heap_alloc_new w _
  generalize hw2 : w.alloc (.cells #[.int .i64 T.n, .int .i64 T.ins, .int .i64 T.outs, .slice p T.cs.length c] 24) = w2 at HE HT
  have HW2 := hide hw2
  clear hw2
  obtain ⟨t0, t1, t2, t3⟩ := HT.out.cells
  have z0 := lt_of_heap HT.out
  go_enter Tryd.func15, Tryd.ntmps15
  go_wp2_with fail
  rw [HW2.out]
  go_wp2_with fail
  refine (HCK.out _ HE.out).mono ?_
  rintro e W1 ⟨rfl, hE1⟩
  have HE1 := hide hE1
  clear hE1 t0 t1 t2 t3 z0
  by_cases h0 : te = 0
  case neg =>
    have hd : (te != 0) = true := by simp [h0]
    have HR := hide (HR1.out h0)
    clear h0
    go_wp2_with fail
    go_ret2
    exact ⟨by rw [HR.out]; rfl, HE.out.trans HE1.out⟩
  case pos =>
  have hd : (te != 0) = false := by simp [h0]
  have HR2 := hide (HR2.out h0)
  have HR3 := hide (HR3.out h0)
  have HBS := hide (HBS.out (HOK.out h0))
  clear h0
  obtain ⟨t0, t1, t2, t3⟩ := (HT.out.ext HE1.out).cells
  have z0 := lt_of_heap (HT.out.ext HE1.out)
  go_wp2_with fail
  refine (HBS.out _ (HE.out.trans HE1.out)).mono ?_
  rintro e W2 ⟨k, rfl, hk, hE2⟩
  have HE2 := hide (HE1.out.trans hE2)
  have HK := hide hk
  clear hE2 hk t0 t1 t2 t3 z0 hd
  by_cases hf : 0 ≤ fnd T x
  · rw [show decide (0 ≤ fnd T x) = true from decide_eq_true hf]
    have HR := hide (HR2.out hf)
    have hK := HK.out hf
    subst hK
    clear hf
    go_wp2_with fail
    go_ret2
    exact ⟨by rw [HR.out]; rfl, HE.out.trans HE2.out⟩
  · rw [show decide (0 ≤ fnd T x) = false from decide_eq_false hf]
    have HR := hide (HR3.out (by omega))
    clear hf
    go_wp2_with fail
    go_ret2
    exact ⟨by rw [HR.out]; rfl, HE.out.trans HE2.out⟩
end Go.Proofs.YtdgapihlgddnjaaDoor

namespace Go.Proofs.YtdgapihlgddnjaaDoor
open Go.RowKit
attribute [local go_sem] Oper.semAt_some

def placeE (T : Tk) (i f : Int) : Int := if tkE T ≠ 0 then tkE T else if i < 0 ∨ (T.cs.length : Int) ≤ i then 6 else if f < 0 ∨ (2 : Int) ^ T.n.toNat ≤ f then 2 else 0
set_option maxRecDepth 16000 in
set_option maxHeartbeats 2000000 in
theorem place_any (T : Tk) (i f : Int) (v : Value) (w : World) (hv : TkRep w v T) :
    Calls Tryd.prog 61 #[v, .int .i64 i, .int .i64 f] w fun e w' => e = .returned (.int .i64 (placeE T i f)) ∧ Ext w w' := by
  have HCK := hide (fun W (hW : Ext w W) => tcheck_any T v W (hv.ext hW))
  obtain ⟨p, c, rfl, -, hl, -⟩ := hv.all_
  have HR1 : Hid (tkE T ≠ 0 → placeE T i f = tkE T) := fun h => if_pos h
  have HR2 : Hid (tkE T = 0 → (i < 0 ∨ (T.cs.length : Int) ≤ i) → placeE T i f = 6) := fun h h2 => (if_neg (fun k => k h)).trans (if_pos h2)
  have HR3 : Hid (tkE T = 0 → ¬ (i < 0 ∨ (T.cs.length : Int) ≤ i) → placeE T i f = if f < 0 ∨ (2 : Int) ^ T.n.toNat ≤ f then 2 else 0) := fun h h2 => (if_neg (fun k => k h)).trans (if_neg h2)
  have HOK := hide (tk_ok (T := T))
  generalize placeE T i f = res at HR1 HR2 HR3 ⊢
  generalize tkE T = te at HCK HR1 HR2 HR3 HOK
  clear hv
  have HE : Hid (Ext w (w.alloc (.cells #[.int .i64 T.n, .int .i64 T.ins, .int .i64 T.outs, .slice p T.cs.length c] 24))) := (Ext.refl w).alloc _
  have HT : Hid (TBox (w.alloc (.cells #[.int .i64 T.n, .int .i64 T.ins, .int .i64 T.outs, .slice p T.cs.length c] 24)) w.heap.size (.int .i64 T.n) (.int .i64 T.ins) (.int .i64 T.outs) (.slice p T.cs.length c)) := heap_alloc_new w _
  generalize hw2 : w.alloc (.cells #[.int .i64 T.n, .int .i64 T.ins, .int .i64 T.outs, .slice p T.cs.length c] 24) = w2 at HE HT
  have HW2 := hide hw2
  clear hw2
  obtain ⟨t0, t1, t2, t3⟩ := HT.out.cells
  have z0 := lt_of_heap HT.out
  go_enter Tryd.func61, Tryd.ntmps61
  go_wp2_with fail
  rw [HW2.out]
  go_wp2_with fail
  refine (HCK.out _ HE.out).mono ?_
  rintro e W1 ⟨rfl, hE1⟩
  have HE1 := hide hE1
  clear hE1 t0 t1 t2 t3 z0
  by_cases h0 : te = 0
  case neg =>
    have hd : (te != 0) = true := by simp [h0]
    have HR := hide (HR1.out h0)
    clear h0
    go_wp2_with fail
    go_ret
    exact ⟨ret_int HR.out.symm, HE.out.trans HE1.out⟩
  case pos =>
  have hd : (te != 0) = false := by simp [h0]
  have HR2 := hide (HR2.out h0)
  have HR3 := hide (HR3.out h0)
  have HOK := hide (HOK.out h0)
  clear h0
  obtain ⟨t0, t1, t2, t3⟩ := (HT.out.ext HE1.out).cells
  have z0 := lt_of_heap (HT.out.ext HE1.out)
  have hl1 := HOK.out.l2
  by_cases hi0 : i < 0
  · have hd1 : decide (i < 0) = true := decide_eq_true hi0
    have HR := hide (HR2.out (.inl hi0))
    clear hi0
    go_wp2_with fail
    go_ret
    exact ⟨ret_int HR.out.symm, HE.out.trans HE1.out⟩
  have hd1 : decide (i < 0) = false := decide_eq_false hi0
  by_cases hi1 : (T.cs.length : Int) ≤ i
  · have hd2 : decide ((T.cs.length : Int) ≤ i) = true := decide_eq_true hi1
    have HR := hide (HR2.out (.inr hi1))
    clear hi0 hi1
    go_wp2_with fail
    go_ret
    exact ⟨ret_int HR.out.symm, HE.out.trans HE1.out⟩
  have hd2 : decide ((T.cs.length : Int) ≤ i) = false := decide_eq_false hi1
  have HR := hide (HR3.out (fun h => h.elim hi0 hi1))
  clear hi0 hi1
  by_cases hf0 : f < 0
  · have hd3 : decide (f < 0) = true := decide_eq_true hf0
    have HR := hide (HR.out.trans (if_pos (.inl hf0)))
    clear hf0
    go_wp2_with fail
    go_ret
    exact ⟨ret_int HR.out.symm, HE.out.trans HE1.out⟩
  have hd3 : decide (f < 0) = false := decide_eq_false hf0
  obtain ⟨N, hN⟩ : ∃ N : Nat, T.n = (N : Int) := ⟨T.n.toNat, by have := HOK.out.n1; omega⟩
  rw [hN, Int.toNat_natCast] at HR
  rw [hN] at t0
  have hN1 : 1 ≤ N := by have := HOK.out.n1; omega
  have hN5 : N ≤ 5 := by have := HOK.out.n5; omega
  by_cases hf1 : (2 : Int) ^ N ≤ f
  · have HRX := hide (HR.out.trans (if_pos (.inr hf1)))
    obtain rfl | rfl | rfl | rfl | rfl : N = 1 ∨ N = 2 ∨ N = 3 ∨ N = 4 ∨ N = 5 := by omega
    all_goals
      have hd4 := decide_eq_true hf1
      simp only [Int.reducePow] at hd4
      clear hf0 hf1 hN hN1 hN5
      go_wp2_with fail
      go_ret
      exact ⟨ret_int HRX.out.symm, HE.out.trans HE1.out⟩
  · have HRX := hide (HR.out.trans (if_neg (fun h => h.elim hf0 hf1)))
    obtain rfl | rfl | rfl | rfl | rfl : N = 1 ∨ N = 2 ∨ N = 3 ∨ N = 4 ∨ N = 5 := by omega
    all_goals
      have hd4 := decide_eq_false hf1
      simp only [Int.reducePow] at hd4
      clear hf0 hf1 hN hN1 hN5
      go_wp2_with fail
      go_ret
      exact ⟨ret_int HRX.out.symm, HE.out.trans HE1.out⟩
/-- The allowed vectors of a case. -/
def allowedL (c : Cs) (f : Int) : List (List Int) := if f = 0 ∧ 0 < c.calm.length then c.calm else c.out
theorem allowed_any (c : Cs) (f : Int) (q0 : Option Addr) (l0 k0 : Nat) (q1 : Option Addr) (k1 : Nat) (q2 : Option Addr) (k2 : Nat) (w : World)
    (h1 : Rows2 icells 1 w (.slice q1 c.out.length k1) c.out) (h2 : Rows2 icells 1 w (.slice q2 c.calm.length k2) c.calm) :
    Calls Tryd.prog 64 #[.agg #[.slice q0 l0 k0, .slice q1 c.out.length k1, .slice q2 c.calm.length k2], .int .i64 f] w fun e w' => ∃ q k, e = .returned (.slice q (allowedL c f).length k) ∧ Rows2 icells 1 w' (.slice q (allowedL c f).length k) (allowedL c f) ∧ Ext w w' := by
  have HE : Hid (Ext w (w.alloc (.cells #[.slice q0 l0 k0, .slice q1 c.out.length k1, .slice q2 c.calm.length k2] 53))) := (Ext.refl w).alloc _
  have H1 := hide (h1.ext HE.out)
  have H2 := hide (h2.ext HE.out)
  obtain ⟨c1, _, e1, -, hl1, -⟩ := h1.sl_all
  obtain ⟨c2, _, e2, -, hl2, -⟩ := h2.sl_all
  clear e1 e2 h1 h2
  by_cases hf : f = 0
  · have hd : (f == 0) = true := by simp [hf]
    by_cases hc : 0 < c.calm.length
    · have hd2 : decide ((0 : Int) < (c.calm.length : Int)) = true := by rw [decide_eq_true_iff]; omega
      have hd3 : decide (0 < c.calm.length) = true := decide_eq_true hc
      have HR : Hid (allowedL c f = c.calm) := if_pos ⟨hf, hc⟩
      clear hf hc
      go_enter Tryd.func64, Tryd.ntmps64
      go_wp2_with fail
      go_ret
      exact ⟨q2, k2, by rw [HR.out]; rfl, by rw [HR.out]; exact H2.out, HE.out⟩
    · have hd2 : decide ((0 : Int) < (c.calm.length : Int)) = false := by rw [decide_eq_false_iff_not]; omega
      have hd3 : decide (0 < c.calm.length) = false := decide_eq_false hc
      have HR : Hid (allowedL c f = c.out) := if_neg (fun h => hc h.2)
      clear hf hc
      go_enter Tryd.func64, Tryd.ntmps64
      go_wp2_with fail
      go_ret
      exact ⟨q1, k1, by rw [HR.out]; rfl, by rw [HR.out]; exact H1.out, HE.out⟩
  · have hd : (f == 0) = false := by simp [hf]
    have HR : Hid (allowedL c f = c.out) := if_neg (fun h => hf h.1)
    clear hf
    go_enter Tryd.func64, Tryd.ntmps64
    go_wp2_with fail
    go_ret
    exact ⟨q1, k1, by rw [HR.out]; rfl, by rw [HR.out]; exact H1.out, HE.out⟩
/-- A vector agrees with decisions, but for the faulty. -/
def agreesB (v o : List Int) (s : Nat) : Bool := (List.range v.length).all fun p => has (s : Int) p || (o.getD p 0 == v.getD p 0)
theorem bit_zero {s p : Nat} (hs : s < 9223372036854775808) : (bits .and .i64 ((s : Int) / 2 ^ p) 1 == 0) = !has (s : Int) p := by
  rw [← bit_has (s := s) (p := p) hs]
  rw [show ((s : Int) / 2 ^ p) = ((s >>> p : Nat) : Int) by rw [Nat.shiftRight_eq_div_pow]; simp]
  have h0 : s >>> p ≤ s := Nat.shiftRight_le s p
  have h1 := i64_and_nat (s >>> p) 1 (by omega) (by omega)
  rw [show ((1 : Nat) : Int) = 1 from rfl] at h1
  rw [h1]
  have : s >>> p &&& 1 = 0 ∨ s >>> p &&& 1 = 1 := by rw [Nat.and_one_is_mod]; omega
  rcases this with e | e <;> rw [e] <;> rfl
theorem agrees_no {v o : List Int} {s p : Nat} (hp : p < v.length) (h1 : has (s : Int) p = false) (h2 : o.getD p 0 ≠ v.getD p 0) : agreesB v o s = false := by
  unfold agreesB
  rw [List.all_eq_false]
  refine ⟨p, List.mem_range.2 hp, ?_⟩
  rw [h1, Bool.false_or, beq_iff_eq]
  exact h2
theorem agrees_yes {v o : List Int} {s : Nat} (h : ∀ p, p < v.length → (has (s : Int) p || (o.getD p 0 == v.getD p 0)) = true) : agreesB v o s = true := by
  unfold agreesB
  rw [List.all_eq_true]
  exact fun p hp => h p (List.mem_range.1 hp)
set_option maxHeartbeats 1000000 in
theorem agrees_any (v o : List Int) (s : Nat) (u t : Value) (w : World) (hv : Row icells 1 w u v) (ho : Row icells 1 w t o) (hl : v.length ≤ o.length) (hl5 : v.length ≤ 5) (hs : s < 9223372036854775808) :
    Calls Tryd.prog 66 #[u, t, .int .i64 s] w fun e w' => e = .returned (.bool (agreesB v o s)) ∧ Ext w w' := by
  obtain ⟨p, c, rfl, hc, hlv, hat⟩ := hv.int_all
  obtain ⟨q, d, rfl, hd, hlo, hat2⟩ := ho.int_all
  have HA := hide hat
  have HB := hide hat2
  have HN : Hid (∀ p, p < v.length → has (s : Int) p = false → o.getD p 0 ≠ v.getD p 0 → agreesB v o s = false) := fun p hp h1 h2 => agrees_no hp h1 h2
  have HY := hide (agrees_yes (v := v) (o := o) (s := s))
  have HBZ := hide (fun p => bit_zero (s := s) (p := p) hs)
  have HL := hide hl
  clear hv ho hat hat2 hl
  generalize agreesB v o s = res at HN HY ⊢
  go_enter Tryd.func66, Tryd.ntmps66
  go_wp2_with fail
  go_loopw [11] (fun x wr => ∃ i : Nat, i ≤ v.length ∧ x = .int .i64 i ∧ Hid (∀ j, j < i → (has (s : Int) j || (o.getD j 0 == v.getD j 0)) = true) ∧ Hid (Ext w wr)) (fun x _ => v.length - (intOf x).toNat)
  case atStart => exact ⟨0, by omega, rfl, fun j hj => by omega, Ext.refl _⟩
  case round =>
    obtain ⟨i, hi, rfl, HJ, HE⟩ := hrel
    by_cases hlt : i < v.length
    · have hlt' : i < o.length := by have := HL.out; omega
      have hi5 : (i : Int) < 64 := by omega
      obtain ⟨b1, o1, rfl, hb1, hat⟩ := HA.out (by omega)
      obtain ⟨b2, o2, rfl, hb2, hat2⟩ := HB.out (by omega)
      have hx := hat i hlt wr HE.out
      have hy := hat2 i hlt' wr HE.out
      have hb1' : b1 < wr.heap.size := Nat.lt_of_lt_of_le hb1 HE.out.size
      have hb2' : b2 < wr.heap.size := Nat.lt_of_lt_of_le hb2 HE.out.size
      have hbz := HBZ.out i
      have HNI := hide (HN.out i hlt)
      have HNX : Hid ((has (s : Int) i || (o.getD i 0 == v.getD i 0)) = true → ∀ j, j < i + 1 → (has (s : Int) j || (o.getD j 0 == v.getD j 0)) = true) := fun h j hj => by
        by_cases e : j = i
        · subst e; exact h
        · exact HJ.out j (by omega)
      clear hat hat2
      generalize has (s : Int) i = hb at hbz HNI HNX
      generalize v.getD i 0 = x at hx HNI HNX
      generalize o.getD i 0 = y at hy HNI HNX
      cases hb
      · have hbz' : (bits .and .i64 ((s : Int) / 2 ^ i) 1 == 0) = true := hbz
        clear hbz
        by_cases h0 : y = x
        · have hd1 : (y != x) = false := by simp [h0]
          have HR := hide (HNX.out (by simp [h0]))
          clear h0
          go_wp2_with fail
          go_roundw
          case rel => exact ⟨i + 1, by omega, by go_num, HR.out, HE.out⟩
          case measure => simp [intOf]; omega
        · have hd1 : (y != x) = true := by simp [h0]
          have HR := hide (HNI.out rfl h0)
          clear h0
          go_wp2_with fail
          go_ret
          exact ⟨ret_bool HR.out.symm, HE.out⟩
      · have hbz' : (bits .and .i64 ((s : Int) / 2 ^ i) 1 == 0) = false := hbz
        clear hbz
        have HR := hide (HNX.out rfl)
        go_wp2_with fail
        go_roundw
        case rel => exact ⟨i + 1, by omega, by go_num, HR.out, HE.out⟩
        case measure => simp [intOf]; omega
    · obtain rfl : i = v.length := by omega
      have HR := hide (HY.out HJ.out)
      go_wp2_with fail
      go_ret
      exact ⟨ret_bool HR.out.symm, HE.out⟩
def decBad (m x : Int) : Bool := decide (x < -1) || decide (m ≤ x)
theorem perm1_any (x : Int) (n i m : Int) (u : Value) (b : Nat) (w : World) (hb : TBox w b (.int .i64 n) (.int .i64 i) (.int .i64 m) u) :
    Calls Tryd.prog 62 #[.int .i64 x, .pointer (some ⟨b, 0, none⟩)] w fun e w' => e = .returned (.bool (decBad m x)) ∧ Ext w w' := by
  obtain ⟨t0, t1, t2, t3⟩ := hb.cells
  have hz := lt_of_heap hb
  unfold decBad
  have key : ∀ p q : Bool, decide (x < -1) = p → decide (m ≤ x) = q → Calls Tryd.prog 62 #[.int .i64 x, .pointer (some ⟨b, 0, none⟩)] w fun e w' => e = .returned (.bool (p || q)) ∧ Ext w w' := by
    intro p q h1 h2
    cases p <;> cases q
    all_goals
      go_enter Tryd.func62, Tryd.ntmps62
      go_wp2_with fail
      go_ret
      exact ⟨rfl, Ext.refl _⟩
  exact key _ _ rfl rfl
theorem perm2_any (v o : List Int) (s : Nat) (u t : Value) (bt bs : Nat) (w : World) (hv : Row icells 1 w u v) (ho : Row icells 1 w t o) (hl : v.length ≤ o.length) (hl5 : v.length ≤ 5) (hs : s < 9223372036854775808) (h1 : SBox w bt t) (h2 : IBox w bs s) :
    Calls Tryd.prog 65 #[u, .pointer (some ⟨bt, 0, none⟩), .pointer (some ⟨bs, 0, none⟩)] w fun e w' => e = .returned (.bool (agreesB v o s)) ∧ Ext w w' := by
  have HC := hide (agrees_any v o s u t w hv ho hl hl5 hs)
  have k0 : w.cell? ⟨bt, 0, none⟩ = some t := decl_cells h1 0
  have k1 : w.cell? ⟨bs, 0, none⟩ = some (.int .i64 s) := decl_cells h2 0
  have z0 := lt_of_heap h1
  have z1 := lt_of_heap h2
  obtain ⟨p, c, rfl, -⟩ := hv.int_all
  obtain ⟨q, d, rfl, -⟩ := ho.int_all
  clear hv ho h1 h2
  go_enter Tryd.func65, Tryd.ntmps65
  go_wp2_with fail
  refine HC.out.mono ?_
  rintro e w1 ⟨rfl, hE1⟩
  go_wp2_with fail
  go_ret
  exact ⟨rfl, hE1⟩
theorem enters_perm1 : ∀ args w, (callFunc 62 args).run Tryd.prog w = .ok (.enter 62 args) w := fun _ _ => by kernel_rfl
theorem enters_perm2 : ∀ args w, (callFunc 65 args).run Tryd.prog w = .ok (.enter 65 args) w := fun _ _ => by kernel_rfl
theorem csE_zero {n m : Int} {c : Cs} (h : csE n m c = 0) : (1 ≤ c.out.length ∧ c.out.length ≤ 1024) ∧ (∀ i, i < c.out.length → vecE (c.out.getD i []) n m = 0 ∧ unord c.out i = false) ∧ (∀ i, i < c.calm.length → c.calm.getD i [] ∈ c.out ∧ unord c.calm i = false) := by
  unfold csE at h
  by_cases h1 : c.out.length < 1 ∨ 1024 < c.out.length
  · rw [if_pos h1] at h; exact absurd h (by decide)
  rw [if_neg h1] at h
  by_cases h2 : firstErr (outE n m c.out) c.out.length ≠ 0
  · rw [if_pos h2] at h; exact absurd h h2
  rw [if_neg h2] at h
  have h2 := firstErr_zero.1 (Classical.not_not.1 h2)
  have h3 := firstErr_zero.1 h
  refine ⟨by omega, fun i hi => ?_, fun i hi => ?_⟩
  · have := h2 i hi
    unfold outE at this
    by_cases k : vecE (c.out.getD i []) n m = 0
    · rw [if_neg (fun j => j k)] at this
      cases k2 : unord c.out i
      · exact ⟨k, rfl⟩
      · rw [k2, if_pos rfl] at this; exact absurd this (by decide)
    · rw [if_pos k] at this; exact absurd this k
  · have := h3 i hi
    unfold calmE at this
    by_cases k : c.calm.getD i [] ∈ c.out
    · rw [if_neg (by rw [decide_eq_true k]; decide)] at this
      cases k2 : unord c.calm i
      · exact ⟨k, rfl⟩
      · rw [k2, if_pos rfl] at this; exact absurd this (by decide)
    · rw [if_pos (decide_eq_false k)] at this; exact absurd this (by decide)
theorem vecE_zero {v : List Int} {n m : Int} (h : vecE v n m = 0) : (v.length : Int) = n ∧ ∀ x ∈ v, 0 ≤ x ∧ x < m := by
  unfold vecE at h
  by_cases h1 : (v.length : Int) ≠ n
  · rw [if_pos h1] at h; exact absurd h (by decide)
  rw [if_neg h1] at h
  by_cases h2 : v.any (vecBad m) = true
  · rw [if_pos h2] at h; exact absurd h (by decide)
  refine ⟨Classical.not_not.1 h1, fun x hx => ?_⟩
  have h3 : vecBad m x = false := by
    have := List.any_eq_false.1 (Bool.eq_false_iff.2 h2) x hx
    simpa using this
  unfold vecBad at h3
  simp only [Bool.or_eq_false_iff, decide_eq_false_iff_not] at h3
  omega
/-- All allowed vectors are vectors. -/
theorem allowed_len {n m : Int} {c : Cs} (h : csE n m c = 0) (f : Int) : ∀ i, i < (allowedL c f).length → (((allowedL c f).getD i []).length : Int) = n := by
  obtain ⟨-, h2, h3⟩ := csE_zero h
  have key : ∀ y ∈ c.out, (y.length : Int) = n := fun y hy => by
    obtain ⟨i, hi, rfl⟩ := List.getElem_of_mem hy
    have := (vecE_zero (h2 i hi).1).1
    rw [List.getD_eq_getElem?_getD, List.getElem?_eq_getElem hi] at this
    exact this
  intro i hi
  unfold allowedL at hi ⊢
  split at hi
  · rename_i hc
    rw [if_pos hc]
    exact key _ (h3 i hi).1
  · rename_i hc
    rw [if_neg hc]
    exact (vecE_zero (h2 i hi).1).1
def permS (T : Tk) (i f : Int) (o : List Int) : Bool × Int :=
  if placeE T i f ≠ 0 then (false, placeE T i f) else if (o.length : Int) ≠ T.n then (false, 15) else if o.any (decBad T.outs) = true then (false, 2)
  else ((allowedL (T.cs.getD i.toNat default) f).any fun v => agreesB v o f.toNat, 0)
theorem place_ok {T : Tk} {i f : Int} (h : placeE T i f = 0) : TkOk T ∧ 0 ≤ i ∧ i < T.cs.length ∧ 0 ≤ f ∧ f < 2 ^ T.n.toNat := by
  unfold placeE at h
  by_cases h1 : tkE T = 0
  · rw [if_neg (fun k => k h1)] at h
    by_cases h2 : i < 0 ∨ (T.cs.length : Int) ≤ i
    · rw [if_pos h2] at h; exact absurd h (by decide)
    rw [if_neg h2] at h
    by_cases h3 : f < 0 ∨ (2 : Int) ^ T.n.toNat ≤ f
    · rw [if_pos h3] at h; exact absurd h (by decide)
    exact ⟨tk_ok h1, by omega, by omega, by omega, by omega⟩
  · rw [if_pos h1] at h; exact absurd h h1
end Go.Proofs.YtdgapihlgddnjaaDoor

namespace Go.Proofs.YtdgapihlgddnjaaDoor
open Go.RowKit
attribute [local go_sem] Oper.semAt_some

/-- The allowed vectors of a case, one value in all later worlds. -/
theorem allowed_fix (c : Cs) (f : Int) (q0 : Option Addr) (l0 k0 : Nat) (q1 : Option Addr) (k1 : Nat) (q2 : Option Addr) (k2 : Nat) (w : World)
    (h1 : Rows2 icells 1 w (.slice q1 c.out.length k1) c.out) (h2 : Rows2 icells 1 w (.slice q2 c.calm.length k2) c.calm) :
    ∃ q k, Rows2 icells 1 w (.slice q (allowedL c f).length k) (allowedL c f) ∧ ∀ W, Calls Tryd.prog 64 #[.agg #[.slice q0 l0 k0, .slice q1 c.out.length k1, .slice q2 c.calm.length k2], .int .i64 f] W fun e w' => e = .returned (.slice q (allowedL c f).length k) ∧ Ext W w' := by
  obtain ⟨c1, _, e1, -, hl1, -⟩ := h1.sl_all
  obtain ⟨c2, _, e2, -, hl2, -⟩ := h2.sl_all
  clear e1 e2
  by_cases hf : f = 0 ∧ 0 < c.calm.length
  · have hd : (f == 0) = true := by simp [hf.1]
    have hd2 : decide ((0 : Int) < (c.calm.length : Int)) = true := by rw [decide_eq_true_iff]; omega
    have hd3 : decide (0 < c.calm.length) = true := decide_eq_true hf.2
    have e : allowedL c f = c.calm := if_pos hf
    rw [e]
    refine ⟨q2, k2, h2, fun W => ?_⟩
    clear h1 h2 hf e
    go_enter Tryd.func64, Tryd.ntmps64
    go_wp2_with fail
    go_ret
    exact ⟨rfl, (Ext.refl _).alloc _⟩
  · have e : allowedL c f = c.out := if_neg hf
    rw [e]
    refine ⟨q1, k1, h1, fun W => ?_⟩
    clear h1 h2 e
    by_cases hf0 : f = 0
    · have hd : (f == 0) = true := by simp [hf0]
      have hd2 : decide ((0 : Int) < (c.calm.length : Int)) = false := by rw [decide_eq_false_iff_not]; omega
      have hd3 : decide (0 < c.calm.length) = false := by rw [decide_eq_false_iff_not]; omega
      clear hf hf0
      go_enter Tryd.func64, Tryd.ntmps64
      go_wp2_with fail
      go_ret
      exact ⟨rfl, (Ext.refl _).alloc _⟩
    · have hd : (f == 0) = false := by simp [hf0]
      clear hf hf0
      go_enter Tryd.func64, Tryd.ntmps64
      go_wp2_with fail
      go_ret
      exact ⟨rfl, (Ext.refl _).alloc _⟩
theorem any_agrees (L : List (List Int)) (o : List Int) (s : Nat) : (L.any fun v => agreesB v o s) = L.any (fun v => agreesB v o s) := rfl
theorem place_bd {n : Int} {f : Int} (h1 : 1 ≤ n) (h5 : n ≤ 5) (h0 : 0 ≤ f) (h : f < 2 ^ n.toNat) : f < 32 := by
  obtain ⟨N, rfl⟩ : ∃ N : Nat, n = (N : Int) := ⟨n.toNat, by omega⟩
  rw [Int.toNat_natCast] at h
  obtain rfl | rfl | rfl | rfl | rfl : N = 1 ∨ N = 2 ∨ N = 3 ∨ N = 4 ∨ N = 5 := by omega
  all_goals simp only [Int.reducePow] at h; omega
set_option maxRecDepth 16000 in
set_option maxHeartbeats 2000000 in
theorem permitted_any (T : Tk) (i f : Int) (o : List Int) (v u : Value) (w : World) (hv : TkRep w v T) (ho : Row icells 1 w u o) :
    Calls Tryd.prog 16 #[v, .int .i64 i, .int .i64 f, u] w fun e w' => e = .returned (.tuple #[.bool (permS T i f o).1, .int .i64 (permS T i f o).2]) ∧ Ext w w' := by
  have HPL := hide (fun W (hW : Ext w W) => place_any T i f v W (hv.ext hW))
  obtain ⟨p, c, rfl, -, -, hat⟩ := hv.all_
  have HA := hide hat
  have HR1 : Hid (placeE T i f ≠ 0 → permS T i f o = (false, placeE T i f)) := fun h => if_pos h
  have HR2 : Hid (placeE T i f = 0 → (o.length : Int) ≠ T.n → permS T i f o = (false, 15)) := fun h h2 => (if_neg (fun k => k h)).trans (if_pos h2)
  have HR3 : Hid (placeE T i f = 0 → ¬ (o.length : Int) ≠ T.n → permS T i f o = if o.any (decBad T.outs) = true then (false, 2) else ((allowedL (T.cs.getD i.toNat default) f).any fun v => agreesB v o f.toNat, 0)) := fun h h2 => (if_neg (fun k => k h)).trans (if_neg h2)
  have HOK := hide (place_ok (T := T) (i := i) (f := f))
  generalize permS T i f o = res at HR1 HR2 HR3 ⊢
  generalize placeE T i f = pe at HPL HR1 HR2 HR3 HOK
  have HO := hide ho
  obtain ⟨qo, ko, rfl, -, hol, -⟩ := ho.int_all
  clear hv hat ho
  obtain ⟨w2, hw2⟩ : ∃ w2, ((w.alloc (.cells #[.int .i64 T.n, .int .i64 T.ins, .int .i64 T.outs, .slice p T.cs.length c] 24)).alloc (.cells #[.int .i64 f] 3)).alloc (.cells #[.slice qo o.length ko] 43) = w2 := ⟨_, rfl⟩
  have HE : Hid (Ext w w2) := by show Ext _ _; rw [← hw2]; exact (((Ext.refl w).alloc _).alloc _).alloc _
  have HT : Hid (TBox w2 w.heap.size (.int .i64 T.n) (.int .i64 T.ins) (.int .i64 T.outs) (.slice p T.cs.length c)) := by
    show _ = _
    rw [← hw2, Below.heap_alloc _ _ _ (by simp; omega), Below.heap_alloc _ _ _ (by simp)]
    exact heap_alloc_new w _
  have HF : Hid (IBox w2 (w.heap.size + 1) f) := by show _ = _; rw [← hw2]; exact at3_1 _ _ _ _ _ _ _
  have HS : Hid (SBox w2 (w.heap.size + 1 + 1) (.slice qo o.length ko)) := by show _ = _; rw [← hw2]; exact at3_2 _ _ _ _ _ _ _
  have HW2 := hide hw2
  clear hw2
  obtain ⟨t0, t1, t2, t3⟩ := HT.out.cells
  have z0 := lt_of_heap HT.out
  have f0 : w2.cell? ⟨w.heap.size + 1, 0, none⟩ = some (.int .i64 f) := decl_cells HF.out 0
  have z1 := lt_of_heap HF.out
  go_enter Tryd.func16, Tryd.ntmps16
  go_wp2_with fail
  rw [HW2.out]
  go_wp2_with fail
  refine (HPL.out _ HE.out).mono ?_
  rintro e W1 ⟨rfl, hE1⟩
  have HE1 := hide hE1
  clear hE1 t0 t1 t2 t3 z0 f0 z1
  by_cases h0 : pe = 0
  case neg =>
    have hd : (pe != 0) = true := by simp [h0]
    have HRX := hide (HR1.out h0)
    clear h0
    go_wp2_with fail
    go_ret2
    exact ⟨by rw [HRX.out]; rfl, HE.out.trans HE1.out⟩
  case pos =>
  have hd : (pe != 0) = false := by simp [h0]
  have HR2 := hide (HR2.out h0)
  have HR3 := hide (HR3.out h0)
  have HOK := hide (HOK.out h0)
  clear h0
  obtain ⟨t0, t1, t2, t3⟩ := (HT.out.ext HE1.out).cells
  have z0 := lt_of_heap (HT.out.ext HE1.out)
  have f0 : W1.cell? ⟨w.heap.size + 1 + 1, 0, none⟩ = some (.slice qo o.length ko) := decl_cells (HS.out.ext HE1.out) 0
  have z1 := lt_of_heap (HS.out.ext HE1.out)
  by_cases hn : (o.length : Int) = T.n
  case neg =>
    have hd2 : ((o.length : Int) != T.n) = true := by simp [hn]
    have HRX := hide (HR2.out hn)
    clear hn
    go_wp2_with fail
    go_ret2
    exact ⟨by rw [HRX.out]; rfl, HE.out.trans HE1.out⟩
  case pos =>
  have hd2 : ((o.length : Int) != T.n) = false := by simp [hn]
  have HR3 := hide (HR3.out (fun k => k hn))
  have HN := hide hn
  clear hn
  have HC := hide (fun W (hW : Ext w2 W) => containsI_g (decBad T.outs) 62 #[.pointer (some ⟨w.heap.size, 0, none⟩)] o _ W (HO.out.ext (HE.out.trans hW)) enters_perm1 (fun x V hV => perm1_any x T.n T.ins T.outs _ _ V (HT.out.ext (hW.trans hV))))
  generalize o.any (decBad T.outs) = ob at HC HR3
  go_wp2_with fail
  refine (HC.out _ HE1.out).mono ?_
  rintro e W2 ⟨rfl, hE2⟩
  have HE2 := hide (HE1.out.trans hE2)
  clear hE2 t0 t1 t2 t3 z0 f0 z1 hd hd2 HC
  cases ob
  case true =>
    have HRX := hide (HR3.out.trans (if_pos rfl))
    go_wp2_with fail
    go_ret2
    exact ⟨by rw [HRX.out]; rfl, HE.out.trans HE2.out⟩
  case false =>
  have HRX := hide (HR3.out.trans (if_neg (by decide)))
  clear HR3
  obtain ⟨hT, hi0, hi1, hf0, hf1⟩ := HOK.out
  have hf32 := place_bd hT.n1 hT.n5 hf0 hf1
  obtain ⟨I, rfl⟩ := Int.eq_ofNat_of_zero_le hi0
  obtain ⟨s, rfl⟩ := Int.eq_ofNat_of_zero_le hf0
  rw [Int.toNat_natCast, Int.toNat_natCast] at HRX
  have hI : I < T.cs.length := by omega
  have hl5 : T.n ≤ 5 := hT.n5
  have HLE := hide (fun f => allowed_len (hT.at_ I hI).2 f)
  obtain ⟨b, oo, rfl, hb, hat⟩ := HA.out (by omega)
  obtain ⟨q0, k0, q1, k1, q2, k2, hC⟩ := hat I hI
  obtain ⟨qa, ka, hra, hca⟩ := allowed_fix (T.cs.getD I default) (s : Int) q0 (T.cs.getD I default).inp.length k0 q1 k1 q2 k2 w hC.r1 hC.r2
  have HAL := hide hca
  have HCT := hide (fun W (hW : Ext w2 W) => containsV_g (fun v => agreesB v o s) 65 #[.pointer (some ⟨w.heap.size + 1 + 1, 0, none⟩), .pointer (some ⟨w.heap.size + 1, 0, none⟩)] (allowedL (T.cs.getD I default) (s : Int)) _ W (hra.ext (HE.out.trans hW)) enters_perm2 (fun j x V hj hV hx => perm2_any _ o s x _ _ _ V hx (HO.out.ext (HE.out.trans (hW.trans hV))) (by have := HLE.out s j hj; have := HN.out; omega) (by have := HLE.out s j hj; omega) (by omega) (HS.out.ext (hW.trans hV)) (HF.out.ext (hW.trans hV))))
  have HXX := hide hC
  have hl2 : T.cs.length ≤ 1024 := hT.l2
  clear hca hra hat hT hC hf1 HOK
  generalize ((allowedL (T.cs.getD I default) (s : Int)).any fun v => agreesB v o s) = rb at HRX HCT
  generalize (allowedL (T.cs.getD I default) (s : Int)).length = la at *
  have x0 := HXX.out.c0 _ (HE.out.trans HE2.out)
  have x1 := HXX.out.c1 _ (HE.out.trans HE2.out)
  have x2 := HXX.out.c2 _ (HE.out.trans HE2.out)
  have hbz := Nat.lt_of_lt_of_le hb (HE.out.trans HE2.out).size
  clear HXX
  generalize (T.cs.getD I default).inp.length = li at *
  generalize (T.cs.getD I default).out.length = lo at *
  generalize (T.cs.getD I default).calm.length = lc at *
  obtain ⟨t0, t1, t2, t3⟩ := (HT.out.ext HE2.out).cells
  have z0 := lt_of_heap (HT.out.ext HE2.out)
  have f0 : W2.cell? ⟨w.heap.size + 1, 0, none⟩ = some (.int .i64 s) := decl_cells (HF.out.ext HE2.out) 0
  have z1 := lt_of_heap (HF.out.ext HE2.out)
  go_upto_region 8 with fail
  refine wp_region_ext (by kernel_rfl) (by kernel_rfl) ?_
  repeat (go_big_quiet_step ((first | (go_at_call 64; exact Calls.ext_of (HAL.out _)) | (go_at_call 63; exact Calls.ext_of (HCT.out _ (by simp [go_sem, HE2.out]))))))
  refine wpQuiet_nil ?_
  rintro w9 ⟨⟨_, hE9⟩, rfl⟩
  have HE3 := hide (HE2.out.trans hE9)
  clear hE9 x0 x1 x2 hbz t0 t1 t2 t3 z0 f0 z1
  go_wp2_with fail
  go_ret2
  exact ⟨by rw [HRX.out]; rfl, HE.out.trans HE3.out⟩
def firstN (L : List (List Int)) (i : Nat) : List (List Int) := L.take i
def allowS (T : Tk) (i f : Int) : List (List Int) × Int := if placeE T i f ≠ 0 then ([], placeE T i f) else (allowedL (T.cs.getD i.toNat default) f, 0)
theorem allowed_short {n m : Int} {c : Cs} (h : csE n m c = 0) (f : Int) (hc : c.calm.length ≤ 100000) : (allowedL c f).length ≤ 100000 := by
  have := (csE_zero h).1
  unfold allowedL
  split <;> omega
end Go.Proofs.YtdgapihlgddnjaaDoor
