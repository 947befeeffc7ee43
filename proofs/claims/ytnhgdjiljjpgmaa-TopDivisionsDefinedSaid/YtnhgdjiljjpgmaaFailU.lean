/-
  The program's layer 17 (failure): the recursion of snapshots.
  Conditions: at most five processes.
-/
import Derived.Test.YtnhgdjiljjpgmaaFailC
namespace Go.Proofs.Ytnhgdjiljjpgmaa
open Go.RowKit
attribute [local go_sem] Oper.semAt_some

/-- What the recursions are told. -/
structure IAsk (n lp bn : Nat) (L : List Gr) (J : Nat → (Nat → Prop) → World → Prop) (Jx : (Nat → Prop) → World → Prop) : Prop where
  n5 : n ≤ 5
  told : ∀ i O V, J i O V → NBox V bn n
  rely : ∀ i, Rely (J i)
  relyx : Rely Jx
  yield : ∀ i g O W', L[i]? = some g → J i O W' → (∀ k, O k → k < W'.heap.size) → YieldAt Fence.wide 0 Try.prog lp #[Gr.v g] W' fun e W'' => (KO O W' W'' ∧ W'.heap.size ≤ W''.heap.size ∧ KF (lp + 1) W' W'') ∧ ((e = .returned (.bool true) ∧ J (i + 1) O W'') ∨ (e = .returned (.bool false) ∧ Jx O W''))
/-- The boxes that the recursion captures. -/
structure DEnv (V : World) (bz bn be n lp : Nat) : Prop where
  y : V.heap[bz]? = some (.cells #[.func (.yield lp) #[] #[]] 98 (0, 0))
  e : V.heap[be]? = some (.cells #[.func (.func 62) #[] #[.pointer (some ⟨bz, 0, none⟩), .pointer (some ⟨bn, 0, none⟩), .pointer (some ⟨be, 0, none⟩)]] 99 (0, 0))
theorem DEnv.of {V V' : World} {bz bn be n lp : Nat} (h : DEnv V bz bn be n lp) {OB : Nat → Prop} (hOB : OB bz ∧ OB be) (hk : ∀ k, OB k → V'.heap[k]? = V.heap[k]?) : DEnv V' bz bn be n lp :=
  ⟨(hk _ hOB.1).trans h.y, (hk _ hOB.2).trans h.e⟩
theorem DEnv.ext {V V' : World} {bz bn be n lp : Nat} (h : DEnv V bz bn be n lp) (hE : Ext V V') : DEnv V' bz bn be n lp :=
  ⟨(hE.b.block _ (lt_of_heap h.y)).trans h.y, (hE.b.block _ (lt_of_heap h.e)).trans h.e⟩
def DGoal (n lp bz bn be : Nat) (OB : Nat → Prop) (L : List Gr) (J : Nat → (Nat → Prop) → World → Prop) (Jx : (Nat → Prop) → World → Prop) (k rest : Nat) : Prop :=
  ∀ (g : Gr) (idx : Nat) (O : Nat → Prop) (W : World), (∀ j x, (divG n k rest g)[j]? = some x → L[idx + j]? = some x) → J idx O W → (∀ k, O k → k < W.heap.size) → (∀ k, OB k → O k) → DEnv W bz bn be n lp → lp < W.heap.size →
    Calls Try.prog 62 #[.int .i64 rest, Gr.v g, .pointer (some ⟨bz, 0, none⟩), .pointer (some ⟨bn, 0, none⟩), .pointer (some ⟨be, 0, none⟩)] W fun e W' =>
      (KO O W W' ∧ W.heap.size ≤ W'.heap.size ∧ KF (lp + 1) W W') ∧ ((e = .returned (.bool true) ∧ J (idx + (divG n k rest g).length) O W') ∨ (e = .returned (.bool false) ∧ Jx O W'))
set_option maxRecDepth 16000 in
set_option maxHeartbeats 2000000 in
theorem div_zero {n lp bz bn be : Nat} {OB : Nat → Prop} {L : List Gr} {J : Nat → (Nat → Prop) → World → Prop} {Jx : (Nat → Prop) → World → Prop} (H : IAsk n lp bn L J Jx) (_hOBB : OB bz ∧ OB be) (k rest : Nat) (hr : rest = 0) (hspec : ∀ g, divG n k rest g = [g]) : DGoal n lp bz bn be OB L J Jx k rest := by
  intro g idx O W hal hj hO hOB hG hlp
  have HH := hide H
  have hlg : L[idx]? = some g := hal 0 g (by rw [hspec]; rfl)
  have HSP := hide (hspec g)
  have HJ := hide hj
  have HO := hide hO
  have HOB := hide hOB
  have HG := hide hG
  obtain ⟨w2, hw2⟩ : ∃ w2, ((W.alloc (.cells #[.int .i64 rest] 3)).alloc (.cells #[.int .i64 g.n, .int .i64 g.h0, .int .i64 g.h1, .int .i64 g.h2, .int .i64 g.h3, .int .i64 g.h4] 36)).alloc (.cells #[.bool false] 4) = w2 := ⟨_, rfl⟩
  have HE : Hid (Ext W w2) := by show Ext _ _; rw [← hw2]; exact (((Ext.refl W).alloc _).alloc _).alloc _
  have HP : Hid (NBox w2 W.heap.size rest) := by
    show _ = _
    rw [← hw2, Below.heap_alloc _ _ _ (by simp; omega), Below.heap_alloc _ _ _ (by simp)]
    exact heap_alloc_new W _
  have HGB : Hid (GrBox w2 (W.heap.size + 1) g) := by
    show _ = _
    rw [← hw2, Below.heap_alloc _ _ _ (by simp)]
    have := heap_alloc_new (W.alloc (.cells #[.int .i64 rest] 3)) (.cells #[.int .i64 g.n, .int .i64 g.h0, .int .i64 g.h1, .int .i64 g.h2, .int .i64 g.h3, .int .i64 g.h4] 36)
    rwa [World.size_alloc] at this
  have HR : Hid (BBox w2 (W.heap.size + 1 + 1) false) := by
    show _ = _
    rw [← hw2]
    have := heap_alloc_new ((W.alloc (.cells #[.int .i64 rest] 3)).alloc (.cells #[.int .i64 g.n, .int .i64 g.h0, .int .i64 g.h1, .int .i64 g.h2, .int .i64 g.h3, .int .i64 g.h4] 36)) (.cells #[.bool false] 4)
    simpa only [World.size_alloc] using this
  have HW2 := hide hw2
  clear hal hj hO hOB hG hw2
  refine (callsIn_wide (n := 0)).1 ?_
  refine callsIn_of_wp Try.func62 rfl trivial ?_ rfl
  simp only [Try.ntmps62, List.size_toArray, List.length_cons, List.length_nil, Nat.reduceAdd, Nat.reduceSub, Array.replicate_succ, Array.replicate_zero, List.push_toArray, List.append_toArray, List.nil_append, List.cons_append]
  have HG2 := hide (HG.out.ext HE.out)
  have p0 := HP.out.cell
  have zp := lt_of_heap HP.out
  have y0 : w2.cell? ⟨bz, 0, none⟩ = some (.func (.yield lp) #[] #[]) := cells_at HG2.out.y 0
  have zy := lt_of_heap HG2.out.y
  obtain ⟨g0, g1, g2, g3, g4, g5, zg⟩ := HGB.out.cells
  rw [← HW2.out] at p0 zp y0 zy g0 g1 g2 g3 g4 g5 zg
  have hd : ((rest : Int) == 0) = true := by rw [hr]; rfl
  have hd2 : (rest == 0) = true := by rw [hr]; rfl
  clear hr
  obtain ⟨OC, hOC⟩ : ∃ OC : Nat → Prop, OC = fun k => O k ∨ k = W.heap.size + 1 + 1 := ⟨_, rfl⟩
  have hOCz : ∀ k, OC k → k < w2.heap.size := fun k hk => by
    have hz3 := HE.out.size
    rw [hOC] at hk
    rcases hk with hk | rfl
    · have := HO.out k hk; omega
    · exact lt_of_heap HR.out
  have hj3 : J idx OC w2 := HH.out.rely idx O OC _ _ HJ.out (Off.of_ext HE.out) fun k hk => by
    refine ⟨?_, hOCz k hk⟩
    rw [hOC] at hk
    rcases hk with hk | rfl
    · exact .inl hk
    · exact .inr (by omega)
  obtain ⟨fn, tmps, assign, body, hy, hR⟩ := HH.out.yield idx g OC w2 hlg hj3 hOCz
  have HRR := hide hR
  have HOC := hide hOC
  have HCZ := hide hOCz
  rw [← HW2.out] at hy
  clear hR hj3 hOC hOCz hlg
  gi_wp2_with fail
  rw [HW2.out]
  refine ⟨rfl, HRR.out.mono ?_⟩
  rintro e w4 ⟨⟨hko, hsz, hkf⟩, hres⟩
  have HR4 := hide (HR.out.of (hko _ (by rw [HOC.out]; exact .inr rfl)))
  have r0 : w4.cell? ⟨W.heap.size + 1 + 1, 0, none⟩ = some (.bool false) := cells_at HR4.out 0
  have rf : w4.frozen? ⟨W.heap.size + 1 + 1, 0, none⟩ = false := frozen_of HR4.out
  have rz := lt_of_heap HR4.out
  have HKO : Hid (∀ u, KO O W (w4.setCell ⟨W.heap.size + 1 + 1, 0, none⟩ u) ∧ W.heap.size ≤ (w4.setCell ⟨W.heap.size + 1 + 1, 0, none⟩ u).heap.size ∧ KF (lp + 1) W (w4.setCell ⟨W.heap.size + 1 + 1, 0, none⟩ u)) := fun u => by
    refine ⟨fun k hk => ?_, ?_, ((KF.of_ext HE.out).trans hkf).trans (KF.setCell _ _ _)⟩
    · have h1 := HO.out k hk
      exact (Below.heap_setCell _ _ _ _ (show k ≠ W.heap.size + 1 + 1 by omega)).trans ((hko k (by rw [HOC.out]; exact .inl hk)).trans (HE.out.b.block k h1))
    · have := HE.out.size
      simp; omega
  have HPUT := hide (fun u => HR4.out.put u)
  have HOFF : Hid (∀ u, Off OC w4 (w4.setCell ⟨W.heap.size + 1 + 1, 0, none⟩ u)) := fun u => (Off.refl OC w4).setCell (by rw [HOC.out]; exact .inr rfl) u
  have HGR : Hid (∀ u, Grow OC O w4 (w4.setCell ⟨W.heap.size + 1 + 1, 0, none⟩ u)) := fun u k hk => ⟨.inl (by rw [HOC.out]; exact .inl hk), by have := HO.out k hk; have := HE.out.size; simp; omega⟩
  clear hko hsz hkf hy HRR y0 zy p0 zp g0 g1 g2 g3 g4 g5 zg
  rcases hres with ⟨rfl, hJ'⟩ | ⟨rfl, hJx'⟩
  · have HJ4 := hide hJ'
    clear hJ'
    gi_wp2_with fail
    refine bodyPost_ret (results_one17 rfl _ _ _ rfl (Try.isAgg4 _) (cells_at (HPUT.out true) 0)) rfl ⟨HKO.out _, .inl ⟨rfl, ?_⟩⟩
    rw [HSP.out]
    exact HH.out.rely _ _ _ _ _ HJ4.out (HOFF.out _) (HGR.out _)
  · have HJ4 := hide hJx'
    clear hJx'
    gi_wp2_with fail
    refine bodyPost_ret (results_one17 rfl _ _ _ rfl (Try.isAgg4 _) (cells_at (HPUT.out false) 0)) rfl ⟨HKO.out _, .inr ⟨rfl, ?_⟩⟩
    exact HH.out.relyx _ _ _ _ HJ4.out (HOFF.out _) (HGR.out _)
/-- The rows of a set's processes are all v. -/
def hfold (n x v : Nat) (g : Gr) : Gr := (List.range n).foldl (fun h p => if bit x p = true then h.set p (v : Int) else h) g
theorem hfold_succ (i x v : Nat) (g : Gr) : hfold (i + 1) x v g = if bit x i = true then (hfold i x v g).set i (v : Int) else hfold i x v g := by
  unfold hfold; rw [List.range_succ, List.foldl_append]; rfl
theorem divG_succ {n k rest : Nat} {g : Gr} (h : rest ≠ 0) : divG n (k + 1) rest g = (betwL (rest &&& (32 - rest % 32)) rest).flatMap fun x => divG n k (andNot rest x) (hfold n x x g) := by
  simp only [divG, if_neg h]; rfl
def leastN (rest : Nat) : Nat := rest &&& (32 - rest % 32)
theorem least_table : ((List.range 32).all fun rest => rest == 0 || (decide (bits .and .i64 ((rest : Nat) : Int) (-((rest : Nat) : Int)) = ((leastN rest : Nat) : Int)) && decide (leastN rest < 32) &&
    (betwL (leastN rest) rest).all fun x => decide (x < 32) && decide (sizeN (andNot rest x) < sizeN rest))) = true := by decide +kernel
theorem least_ok {rest : Nat} (h : rest < 32) (h0 : rest ≠ 0) : bits .and .i64 (rest : Int) (-(rest : Int)) = ((leastN rest : Nat) : Int) ∧ leastN rest < 32 ∧ ∀ x ∈ betwL (leastN rest) rest, x < 32 ∧ sizeN (andNot rest x) < sizeN rest := by
  have t := least_table
  rw [List.all_eq_true] at t
  have t := t rest (List.mem_range.2 h)
  rw [Bool.or_eq_true, Bool.and_eq_true, Bool.and_eq_true, List.all_eq_true] at t
  rcases t with t | ⟨⟨t1, t2⟩, t3⟩
  · exact absurd (by simpa using t) h0
  · refine ⟨of_decide_eq_true t1, of_decide_eq_true t2, fun x hx => ?_⟩
    have := t3 x hx
    rw [Bool.and_eq_true] at this
    exact ⟨of_decide_eq_true this.1, of_decide_eq_true this.2⟩
set_option maxRecDepth 16000 in
set_option maxHeartbeats 8000000 in
theorem div_succ {n lp bz bn be : Nat} {OB : Nat → Prop} {L : List Gr} {J : Nat → (Nat → Prop) → World → Prop} {Jx : (Nat → Prop) → World → Prop} (H : IAsk n lp bn L J Jx) (hOBB : OB bz ∧ OB be) (k rest : Nat) (hr : rest < 2 ^ n) (hr0 : rest ≠ 0) (IH : ∀ r, r < 2 ^ n → sizeN r < sizeN rest → DGoal n lp bz bn be OB L J Jx k r) : DGoal n lp bz bn be OB L J Jx (k + 1) rest := by
  intro g idx O W hal hj hO hOB hG hlp
  have HH := hide H
  have HOBB := hide hOBB
  have HAL := hide hal
  have HJ := hide hj
  have HO := hide hO
  have HOB := hide hOB
  have HG := hide hG
  have HLP := hide hlp
  have h32 := pow32_le H.n5
  obtain ⟨hneg, hl32, hlx⟩ := least_ok (show rest < 32 by omega) hr0
  have HLX := hide hlx
  have HIH := hide IH
  have HR32 := hide (show rest < 32 by omega)
  have HRN := hide hr
  have hd : ((rest : Int) == 0) = false := by rw [beq_eq_false_iff_ne]; omega
  have hd2 : (rest == 0) = false := by rw [beq_eq_false_iff_ne]; exact hr0
  have hneg2 : IntKind.i64.wrap (-(rest : Int)) = -(rest : Int) := IntWalk.i64_in _ (by omega)
  have HSP : Hid (divG n (k + 1) rest g = (betwL (leastN rest) rest).flatMap fun x => divG n k (andNot rest x) (hfold n x x g)) := by
    show _ = _
    rw [divG_succ hr0]; rfl
  obtain ⟨w2, hw2⟩ : ∃ w2, ((W.alloc (.cells #[.int .i64 rest] 3)).alloc (.cells #[.int .i64 g.n, .int .i64 g.h0, .int .i64 g.h1, .int .i64 g.h2, .int .i64 g.h3, .int .i64 g.h4] 36)).alloc (.cells #[.bool false] 4) = w2 := ⟨_, rfl⟩
  have HE : Hid (Ext W w2) := by show Ext _ _; rw [← hw2]; exact (((Ext.refl W).alloc _).alloc _).alloc _
  have HP : Hid (NBox w2 W.heap.size rest) := by
    show _ = _
    rw [← hw2, Below.heap_alloc _ _ _ (by simp; omega), Below.heap_alloc _ _ _ (by simp)]
    exact heap_alloc_new W _
  have HGB : Hid (GrBox w2 (W.heap.size + 1) g) := by
    show _ = _
    rw [← hw2, Below.heap_alloc _ _ _ (by simp)]
    have := heap_alloc_new (W.alloc (.cells #[.int .i64 rest] 3)) (.cells #[.int .i64 g.n, .int .i64 g.h0, .int .i64 g.h1, .int .i64 g.h2, .int .i64 g.h3, .int .i64 g.h4] 36)
    rwa [World.size_alloc] at this
  have HR : Hid (BBox w2 (W.heap.size + 1 + 1) false) := by
    show _ = _
    rw [← hw2]
    have := heap_alloc_new ((W.alloc (.cells #[.int .i64 rest] 3)).alloc (.cells #[.int .i64 g.n, .int .i64 g.h0, .int .i64 g.h1, .int .i64 g.h2, .int .i64 g.h3, .int .i64 g.h4] 36)) (.cells #[.bool false] 4)
    simpa only [World.size_alloc] using this
  have HW2 := hide hw2
  have p0 := HP.out.cell
  have zp := lt_of_heap HP.out
  rw [← hw2] at p0 zp
  have HL32 := hide hl32
  generalize hle : leastN rest = least at hneg hl32 HLX HSP HL32
  clear hal hj hO hOB hG hlp IH hlx hr hr0 hw2 hle H
  refine calls_of_wp_m Try.func62 rfl ?_
  simp only [Try.ntmps62, List.size_toArray, List.length_cons, List.length_nil, Nat.reduceAdd, Nat.reduceSub, Array.replicate_succ, Array.replicate_zero, List.push_toArray, List.append_toArray, List.nil_append, List.cons_append]
  go_wp2_with fail
  rw [HW2.out]
  refine (pbetween_any least rest w2).mono ?_
  rintro e w3 ⟨rfl, hlow, hhigh, hE3⟩
  have HE3 := hide (HE.out.trans hE3)
  have hz2 : W.heap.size + 1 + 1 < w2.heap.size := lt_of_heap HR.out
  have HP3 := hide (HP.out.ext hE3)
  have HG3 : Hid (GrBox w3 (W.heap.size + 1) g) := (hE3.b.block _ (lt_of_heap HGB.out)).trans HGB.out
  have HR3 := hide (HR.out.of (hE3.b.block _ (lt_of_heap HR.out)))
  have HLO := hide hlow
  have HHI := hide hhigh
  have HW3 : Hid (w2.heap.size ≤ w3.heap.size) := hE3.size
  clear p0 zp HW2 hlow hhigh hE3 hd hd2 HGB HR HP HE
  go_wp2_with fail
  obtain ⟨gl, hgl⟩ : ∃ gl, w2.heap.size = gl := ⟨_, rfl⟩
  obtain ⟨Z, hZ⟩ : ∃ Z, W.heap.size = Z := ⟨_, rfl⟩
  obtain ⟨B, hB⟩ : ∃ B, w3.heap.size = B := ⟨_, rfl⟩
  obtain ⟨OA, hOA⟩ : ∃ OA : Nat → Prop, OA = fun k => O k ∨ k = Z ∨ k = Z + 1 ∨ k = Z + 1 + 1 := ⟨_, rfl⟩
  obtain ⟨F, hF⟩ : ∃ F : Nat → List Gr, F = fun x : Nat => divG n k (andNot rest x) (hfold n x x g) := ⟨_, rfl⟩
  obtain ⟨RL, hRL⟩ : ∃ RL, betwL least rest = RL := ⟨_, rfl⟩
  have hzB : Z + 1 + 1 < B := by have := HW3.out; omega
  have hghz := lt_of_heap HHI.out
  rw [hgl] at HLO HHI
  have HGLH : Hid (Z + 1 + 1 < gl ∧ gl + 1 < B) := ⟨by omega, by omega⟩
  have HOAO : Hid (∀ k, O k → OA k) := fun k hk => by rw [hOA]; exact .inl hk
  have HOAB : Hid (OA Z ∧ OA (Z + 1) ∧ OA (Z + 1 + 1)) := by rw [hOA]; exact ⟨.inr (.inl rfl), .inr (.inr (.inl rfl)), .inr (.inr (.inr rfl))⟩
  have HOAZ : Hid (∀ k, OA k → k < Z + 1 + 1 + 1) := fun k hk => by
    rw [hOA] at hk
    rcases hk with hk | rfl | rfl | rfl
    · have := HO.out k hk; omega
    · omega
    · omega
    · omega
  have HJ3 : Hid (J idx (fun k => OA k ∨ (k = gl ∨ k = gl + 1) ∨ ((k = B ∨ k = B + 1) ∧ k < w3.heap.size)) w3) := by
    refine HH.out.rely idx O _ _ _ HJ.out (Off.of_ext HE3.out) fun k hk => ?_
    have hg4 := HGLH.out
    rcases hk with hk | hk | ⟨hk, hlt⟩
    · have hk2 := HOAZ.out k hk
      rw [hOA] at hk
      rcases hk with hk | hk | hk | hk
      · exact ⟨.inl hk, by have := HO.out k hk; omega⟩
      · exact ⟨.inr (by omega), by omega⟩
      · exact ⟨.inr (by omega), by omega⟩
      · exact ⟨.inr (by omega), by omega⟩
    · exact ⟨.inr (by omega), by omega⟩
    · exfalso; omega
  have HEG : Hid (divG n (k + 1) rest g = RL.flatMap F) := by show _ = _; rw [HSP.out, hF, hRL]
  have HLX2 : Hid (∀ x ∈ RL, x < 32 ∧ sizeN (andNot rest x) < sizeN rest) := by rw [← hRL]; exact HLX.out
  have HSEQ : Hid (SeqY Try.prog 49 #[.pointer (some ⟨gl + 1, 0, none⟩), .pointer (some ⟨gl, 0, none⟩)] (fun W => NBox W gl least ∧ NBox W (gl + 1) rest) (fun k => k = gl ∨ k = gl + 1) (fun _ => True) RL.length (fun i _ x _ => x = #[.int .i64 (RL.getD i 0 : Nat)])) := by
    rw [← hRL]
    exact pbetween_seq least rest HL32.out HR32.out (gl + 1) gl
  rw [hZ] at HP3 HG3 HR3 HO HLP
  have HZZ := hide hZ
  have HBB := hide hB
  have hlpB : lp + 1 ≤ B := by have := HLP.out; omega
  have HFF := hide hF
  clear hOA hF HJ hghz hz2 HW3 hRL HSP HLX hneg hneg2 hl32
  rw [hZ, hgl]
  clear hgl
  refine wp_rangeY (n := RL.length) rfl enters_pbetween1 HSEQ.out (fun i O x V hi hX => by rw [hX]; rfl)
    (fun i O' V => (J (idx + ((RL.take i).flatMap F).length) (fun k => OA k ∨ O' k ∨ ((k = B ∨ k = B + 1) ∧ k < V.heap.size)) V ∧ ∀ k, OA k → k < V.heap.size) ∧
      (NBox V Z rest ∧ GrBox V (Z + 1) g ∧ BBox V (Z + 1 + 1) false) ∧ (KO O W V ∧ KF (lp + 1) W V) ∧ ∀ k, O' k → Z ≤ k ∧ ¬ OA k)
    (fun c O' V => c = .ret ∧ (Jx (fun k => OA k ∨ O' k ∨ ((k = B ∨ k = B + 1) ∧ k < V.heap.size)) V ∧ ∀ k, OA k → k < V.heap.size) ∧ BBox V (Z + 1 + 1) false ∧ (KO O W V ∧ KF (lp + 1) W V) ∧ ∀ k, O' k → Z ≤ k ∧ ¬ OA k) ?_ ?_ ?_ ?_ ?_ ?_ ?_ ?_ ?_
  · exact fun _ _ _ _ => trivial
  · intro i
    rw [HBB.out]
    refine rely_rec (HH.out.rely _) (fun k hk => by have := HOAZ.out k hk; omega) HOAO.out ?_ HZZ.out (by omega)
    rintro V V' ⟨h1, h2, h4⟩ keep
    exact ⟨h1.of (keep _ HOAB.out.1), (keep _ HOAB.out.2.1).trans h2, h4.of (keep _ HOAB.out.2.2)⟩
  · rintro c O1 O2 V V' ⟨hc, h⟩ hoff hG
    rw [HBB.out] at hoff
    exact ⟨hc, rely_rec (S := fun V => BBox V (Z + 1 + 1) false) HH.out.relyx (fun k hk => by have := HOAZ.out k hk; omega) HOAO.out (fun V V' h1 keep => h1.of (keep _ HOAB.out.2.2)) HZZ.out (by omega) O1 O2 V V' h hoff hG⟩
  · exact fun V hE => ⟨HLO.out.ext hE, HHI.out.ext hE⟩
  · rintro k hk
    have := HGLH.out
    rcases hk with rfl | rfl <;> omega
  · have hz := HZZ.out
    have hg4 := HGLH.out
    refine ⟨⟨by simpa using HJ3.out, fun k hk => by have := HOAZ.out k hk; omega⟩, ⟨HP3.out, HG3.out, HR3.out⟩, ⟨fun k hk => HE3.out.b.block k (by have := HO.out k hk; omega), KF.of_ext HE3.out⟩, fun k hk => ⟨?_, fun ha => ?_⟩⟩
    · rcases hk with rfl | rfl <;> omega
    · have := HOAZ.out k ha
      rcases hk with rfl | rfl <;> omega
  · rintro l i x O' V hi rfl ⟨⟨hj, hjz⟩, ⟨h2, h3, h4⟩, ⟨hko, hkf⟩, h5⟩ hOV hl hlV
    rw [HBB.out] at hl ⊢
    obtain ⟨row, hrow⟩ : ∃ row, RL.getD i 0 = row := ⟨_, rfl⟩
    have hRi : RL[i]? = some row := by rw [← hrow, List.getD_eq_getElem?_getD, List.getElem?_eq_getElem hi]; rfl
    obtain ⟨OC, hOC⟩ : ∃ OC : Nat → Prop, OC = fun k => OA k ∨ O' k ∨ ((k = B ∨ k = B + 1) ∧ k < V.heap.size) := ⟨_, rfl⟩
    rw [← hOC] at hj
    rw [hrow]
    gi_wp2_with fail
    refine ⟨⟨KF.refl _ _, fun _ _ => rfl⟩, fun V2 hC hrec => ?_⟩
    have hz := HZZ.out
    have keep : ∀ k, OA k → V2.heap[k]? = V.heap[k]? := fun k hk => hC.block k (hjz k hk) fun e => by have := HOAZ.out k hk; omega
    have hOCz : ∀ k, OC k → k < V2.heap.size := fun k hk => by
      have := hC.size
      rw [hOC] at hk
      rcases hk with hk | hk | ⟨_, hk⟩
      · have := hjz k hk; omega
      · have := hOV k hk; omega
      · omega
    have hOCl : OC l := by rw [hOC, hl]; exact .inr (.inr ⟨.inr rfl, by omega⟩)
    have hj2 := HH.out.rely _ OC OC V V2 hj ⟨hC.os, hC.tape, hC.output, hC.size, fun k hk hn => hC.block k hk fun e => hn (by rw [e]; exact hOCl)⟩ (fun k hk => ⟨.inl hk, hOCz k hk⟩)
    have hko2 : KO O W V2 := fun k hk => (keep k (HOAO.out k hk)).trans (hko k hk)
    have hkf2 : KF (lp + 1) W V2 := ⟨Nat.le_trans hkf.1 hC.size, fun k o hk ho hc => by
      have hV := hkf.2 k o hk ho hc
      have hlt := lt_of_heap ho
      exact (hC.block k (lt_of_heap hV) fun e => by omega).trans hV⟩
    have HJ2 := hide hj2
    have HKO2 := hide hko2
    have HKF2 := hide hkf2
    have HG2 : Hid (DEnv V2 bz bn be n lp) := HG.out.of HOBB.out fun k hk => hko2 k (HOB.out k hk)
    have H2 : Hid (NBox V2 Z rest ∧ GrBox V2 (Z + 1) g ∧ BBox V2 (Z + 1 + 1) false) := ⟨h2.of (keep _ HOAB.out.1), (keep _ HOAB.out.2.1).trans h3, h4.of (keep _ HOAB.out.2.2)⟩
    have HV2 : Hid (V.heap.size ≤ V2.heap.size) := hC.size
    have HOC := hide hOC
    have HCZ : Hid (∀ k, OC k → k < V2.heap.size) := hOCz
    have HRI := hide hRi
    have HH5 := hide h5
    have HOV := hide hOV
    have HREC := hide hrec
    obtain ⟨g0, g1, g2, g3, g4, g5, gz⟩ := H2.out.2.1.cells
    have n0 := (HH.out.told _ _ _ HJ2.out).cell
    have nz := lt_of_heap (HH.out.told _ _ _ HJ2.out)
    clear hj hj2 hko hko2 hkf hkf2 h2 h3 h4 h5 hOV hjz hC keep hOCz hOCl hRi hOC hrow hrec
    gi_wp2_with fail
    obtain ⟨hb, hhb⟩ : ∃ hb, V2.heap.size = hb := ⟨_, rfl⟩
    obtain ⟨V3, hV3⟩ : ∃ V3, V2.alloc (.cells #[.int .i64 g.n, .int .i64 g.h0, .int .i64 g.h1, .int .i64 g.h2, .int .i64 g.h3, .int .i64 g.h4] 36) = V3 := ⟨_, rfl⟩
    have HL0 : Hid (GrBox V3 hb (hfold 0 row row g) ∧ V3.heap.size = hb + 1 ∧ (V3.os = V2.os ∧ V3.tape = V2.tape ∧ V3.output = V2.output) ∧ ∀ k, k < hb → V3.heap[k]? = V2.heap[k]?) := by
      rw [← hV3, ← hhb]
      exact ⟨heap_alloc_new _ _, by simp, ⟨rfl, rfl, rfl⟩, fun k hk => Below.heap_alloc _ _ _ hk⟩
    rw [hV3, hhb]
    have HHB := hide hhb
    have HROW32 := hide (HLX2.out row (List.mem_of_getElem? HRI.out))
    have hn5 := HH.out.n5
    clear hV3 hhb g0 g1 g2 g3 g4 g5 gz n0 nz
    gi_loopw [27] (fun v V' => ∃ i2 : Nat, i2 ≤ n ∧ v = .int .i64 i2 ∧ Hid (GrBox V' hb (hfold i2 row row g) ∧ V'.heap.size = hb + 1 ∧ (V'.os = V2.os ∧ V'.tape = V2.tape ∧ V'.output = V2.output) ∧ ∀ k, k < hb → V'.heap[k]? = V2.heap[k]?)) (fun v _ => n - (intOf v).toNat)
    case atStart => exact ⟨0, Nat.zero_le _, rfl, HL0.out⟩
    case round =>
      clear HL0 V3
      obtain ⟨i2, hi2, rfl, HI⟩ := hrel
      by_cases hlt : i2 < n
      · have hi64 : (i2 : Int) < 64 := by omega
        have hi5 : (i2 : Int) < 5 := by omega
        obtain ⟨c0, cf⟩ := HI.out.1.row (p := i2) (by omega)
        have cz := lt_of_heap HI.out.1
        have hbit := bit_run (x := row) (p := i2) HROW32.out.1 (by omega)
        cases hc : bit row i2 with
        | false =>
          rw [hc] at hbit
          have HC := hide hc
          clear hc
          gi_wp2_with fail
          exact ⟨⟨i2 + 1, by omega, by simp, by rw [hfold_succ, HC.out]; exact HI.out⟩, by simp [intOf]; omega⟩
        | true =>
          rw [hc] at hbit
          have HC := hide hc
          clear hc
          gi_wp2_with fail
          refine ⟨⟨i2 + 1, by omega, by simp, ?_⟩, by simp [intOf]; omega⟩
          show GrBox _ _ _ ∧ _ ∧ _ ∧ _
          obtain ⟨h1, h2, h3, h4⟩ := HI.out
          rw [hfold_succ, HC.out, if_pos rfl]
          exact ⟨h1.set (by omega) _, by simpa using h2, h3, fun k hk => (Below.heap_setCell _ _ _ _ (by show k ≠ hb; omega)).trans (h4 k hk)⟩
      · have hin : i2 = n := by omega
        rw [hin] at HI ⊢
        obtain ⟨V4, hV4⟩ : ∃ V4, V4 = wr := ⟨_, rfl⟩
        subst hV4
        obtain ⟨gs, hgs⟩ : ∃ gs, hfold n row row g = gs := ⟨_, rfl⟩
        rw [hgs] at HI
        have HGS := hide hgs
        obtain ⟨hgb, hz4, hos4, hk4⟩ := HI.out
        have hz := HZZ.out
        have hhb := HHB.out
        have hg4 := HGLH.out
        have hv2 := HV2.out
        have hOCz := HCZ.out
        have hOCA : ∀ k, OA k → OC k := fun k hk => by rw [HOC.out]; exact .inl hk
        have HOCA := hide hOCA
        have hlow : ∀ k, OC k → V4.heap[k]? = V2.heap[k]? := fun k hk => hk4 k (by have := hOCz k hk; omega)
        have HLOW := hide hlow
        have HG4 : Hid (DEnv V4 bz bn be n lp) := HG2.out.of HOBB.out fun k hk => hlow k (hOCA k (HOAO.out k (HOB.out k hk)))
        have H4 : Hid (NBox V4 Z rest ∧ GrBox V4 (Z + 1) g ∧ BBox V4 (Z + 1 + 1) false) := ⟨H2.out.1.of (hlow _ (hOCA _ HOAB.out.1)), (hlow _ (hOCA _ HOAB.out.2.1)).trans H2.out.2.1, H2.out.2.2.of (hlow _ (hOCA _ HOAB.out.2.2))⟩
        have HKO4 : Hid (KO O W V4) := fun k hk => (hlow k (hOCA k (HOAO.out k hk))).trans (HKO2.out k hk)
        have hkf24 : ∀ M, KF M V2 V4 := fun M => ⟨by omega, fun k o hk ho hc => (hk4 k (by have := lt_of_heap ho; omega)).trans ho⟩
        have HKF24 := hide hkf24
        have HKF4 := hide (HKF2.out.trans (hkf24 (lp + 1)))
        have HJ4 : Hid (J (idx + ((RL.take i).flatMap F).length) OC V4) := HH.out.rely _ OC OC V2 V4 HJ2.out ⟨hos4.1, hos4.2.1, hos4.2.2, by omega, fun k hk hn => hk4 k (by omega)⟩ (fun k hk => ⟨.inl hk, by have := hOCz k hk; omega⟩)
        have HCZ4 : Hid (∀ k, OC k → k < V4.heap.size) := fun k hk => by have := hOCz k hk; omega
        have HZ4 : Hid (V2.heap.size ≤ V4.heap.size) := by show _ ≤ _; omega
        have hand := andNot_run HR32.out HROW32.out.1
        obtain ⟨g0, g1, g2, g3, g4, g5, gz⟩ := hgb.cells
        have p0 := H4.out.1.cell
        have zp := lt_of_heap H4.out.1
        have e0 : V4.cell? ⟨be, 0, none⟩ = some _ := cells_at HG4.out.e 0
        have ze := lt_of_heap HG4.out.e
        clear hgs hgb hz4 hos4 hk4 hOCz hOCA hlow hkf24 HI HL32 hin hi2 hlt
        gi_wp2_with fail
        refine ⟨trivial, rfl, CallsIn.inRound _ ((callsIn_wide (n := 0)).2 ((HIH.out (andNot rest row) (Nat.lt_of_le_of_lt (andNot_le _ _) HRN.out) HROW32.out.2 gs _ OC V4 ?_ HJ4.out HCZ4.out ?_ HG4.out ?_).mono ?_))⟩
        · intro j x hx
          rw [Nat.add_assoc]
          exact HAL.out _ x (by rw [HEG.out]; exact flat_at F RL i row j x HRI.out (by rw [HFF.out]; show (divG n k (andNot rest row) (hfold n row row g))[j]? = _; rw [HGS.out]; exact hx))
        · intro k hk
          exact HOCA.out k (HOAO.out k (HOB.out k hk))
        · have := HLP.out
          have := HV2.out
          have := HZ4.out
          omega
        rintro e V5 ⟨⟨hko5, hsz5, hkf5⟩, hres⟩
        have hz4 := HZ4.out
        have HO5 : Hid (KO O' V2 V5 ∧ ¬ O' (Z + 1 + 1)) := ⟨fun k hk => (hko5 k (by rw [HOC.out]; exact .inr (.inl hk))).trans (HLOW.out k (by rw [HOC.out]; exact .inr (.inl hk))), fun h => (HH5.out _ h).2 HOAB.out.2.2⟩
        have HKFB : Hid (KF B V2 V5) := KF.trans (HKF24.out B) (hkf5.up hlpB)
        have HK5 : Hid (KO O W V5 ∧ KF (lp + 1) W V5) := ⟨fun k hk => (hko5 k (HOCA.out k (HOAO.out k hk))).trans (HKO4.out k hk), HKF4.out.trans hkf5⟩
        have HB5 : Hid (NBox V5 Z rest ∧ GrBox V5 (Z + 1) g ∧ BBox V5 (Z + 1 + 1) false) := ⟨H4.out.1.of (hko5 _ (HOCA.out _ HOAB.out.1)), (hko5 _ (HOCA.out _ HOAB.out.2.1)).trans H4.out.2.1, H4.out.2.2.of (hko5 _ (HOCA.out _ HOAB.out.2.2))⟩
        have HGW : Hid (∀ V6 : World, V6.heap.size = V5.heap.size → Grow OC (fun k => OA k ∨ O' k ∨ ((k = B ∨ k = B + 1) ∧ k < V6.heap.size)) V5 V6) := fun V6 h6 k hk => by
          rcases hk with hk | hk | ⟨hk, h3⟩
          · exact ⟨.inl (HOCA.out k hk), by have := HCZ4.out k (HOCA.out k hk); omega⟩
          · have h1 : OC k := by rw [HOC.out]; exact .inr (.inl hk)
            exact ⟨.inl h1, by have := HCZ4.out k h1; omega⟩
          · exact ⟨.inl (by rw [HOC.out]; exact .inr (.inr ⟨hk, by rcases hk with rfl | rfl <;> omega⟩)), h3⟩
        have HBD : Hid (∀ k, OA k → k < V5.heap.size) := fun k hk => by have := HCZ4.out k (HOCA.out k hk); omega
        have HOCR : Hid (OC (Z + 1 + 1)) := HOCA.out _ HOAB.out.2.2
        clear hko5 hkf5 hsz5 e0 ze p0 zp g0 g1 g2 g3 g4 g5 gz
        rcases hres with ⟨rfl, hJ'⟩ | ⟨rfl, hJx'⟩
        · have HJ' := hide (HH.out.rely _ _ _ _ _ hJ' (Off.refl _ _) (HGW.out V5 rfl))
          clear hJ'
          gi_wp2_with fail
          refine ⟨⟨HKFB.out, HO5.out.1⟩, ⟨?_, HBD.out⟩, HB5.out, HK5.out, HH5.out⟩
          rw [flat_off F RL i row HRI.out, show F row = divG n k (andNot rest row) gs by rw [HFF.out, ← HGS.out], ← Nat.add_assoc]
          exact HJ'.out
        · have HJ' := hide (HH.out.relyx OC _ V5 _ hJx' ((Off.refl OC V5).setCell (a := ⟨Z + 1 + 1, 0, none⟩) HOCR.out (.bool false)) (HGW.out _ (by simp)))
          have HKS := hide (KFO.trans (B := B) (O := O') ⟨HKFB.out, HO5.out.1⟩ (KFO.setCell V5 ⟨Z + 1 + 1, 0, none⟩ (.bool false) HO5.out.2))
          have HBS := hide (HB5.out.2.2.put false)
          have r0 : V5.cell? ⟨Z + 1 + 1, 0, none⟩ = some (.bool false) := cells_at HB5.out.2.2 0
          have rf : V5.frozen? ⟨Z + 1 + 1, 0, none⟩ = false := frozen_of HB5.out.2.2
          have rz := lt_of_heap HB5.out.2.2
          have HKK : Hid (KO O W (V5.setCell ⟨Z + 1 + 1, 0, none⟩ (.bool false)) ∧ KF (lp + 1) W (V5.setCell ⟨Z + 1 + 1, 0, none⟩ (.bool false))) :=
            ⟨fun k hk => (Below.heap_setCell _ _ _ _ (show k ≠ Z + 1 + 1 by have := HO.out k hk; omega)).trans (HK5.out.1 k hk), HK5.out.2.trans (KF.setCell _ _ _)⟩
          have HBD5 : Hid (∀ k, OA k → k < (V5.setCell ⟨Z + 1 + 1, 0, none⟩ (.bool false)).heap.size) := fun k hk => by have := HBD.out k hk; simpa using this
          clear hJx'
          gi_wp2_with fail
          exact ⟨HKS.out, rfl, ⟨HJ'.out, HBD5.out⟩, HBS.out, HKK.out, HH5.out⟩
  · rintro M O' V ⟨⟨hj, hjz⟩, ⟨-, -, h4⟩, ⟨hko, hkf⟩, h5⟩ hM hMM
    rw [HBB.out] at hM
    have hz := lt_of_heap hMM
    rw [List.take_length, ← HEG.out] at hj
    obtain ⟨V5, hV5⟩ : ∃ V5, V.setCell ⟨Z + 1 + 1, 0, none⟩ (.bool true) = V5 := ⟨_, rfl⟩
    have h5z : V5.heap.size = V.heap.size := by rw [← hV5]; simp
    have hC5 : ∀ k, k ≠ Z + 1 + 1 → V5.heap[k]? = V.heap[k]? := fun k hk => by rw [← hV5]; exact Below.heap_setCell _ _ _ _ hk
    have hM5 : V5.heap[M]? = some (.deferred (some [])) := (hC5 M (by omega)).trans hMM
    have hB5 : BBox V5 (Z + 1 + 1) true := by rw [← hV5]; exact h4.put true
    have hB6 : BBox (V5.putObj M (.deferred none)) (Z + 1 + 1) true := hB5.of (World.putObj_heap_other (by omega))
    have hj2 := HH.out.rely _ _ O _ (V5.putObj M (.deferred none)) hj ⟨by rw [← hV5]; rfl, by rw [← hV5]; rfl, by rw [← hV5]; rfl, by simp [h5z], fun k hk hn => (World.putObj_heap_other fun e => hn (.inr (.inr ⟨.inl (e.trans hM), hk⟩))).trans (hC5 k fun e => hn (.inl (by rw [e]; exact HOAB.out.2.2)))⟩
      (fun k hk => ⟨.inl (.inl (HOAO.out k hk)), by have := HO.out k hk; simp; omega⟩)
    have hfin : (KO O W (V5.putObj M (.deferred none)) ∧ W.heap.size ≤ (V5.putObj M (.deferred none)).heap.size ∧ KF (lp + 1) W (V5.putObj M (.deferred none))) := by
      have hz1 := HZZ.out
      have he : ∀ k, k < Z → (V5.putObj M (.deferred none)).heap[k]? = V.heap[k]? := fun k hk => (World.putObj_heap_other (by omega)).trans (hC5 k (by omega))
      refine ⟨fun k hk => (he k (HO.out k hk)).trans (hko k hk), by simp; omega, by simp; omega, fun k o hk ho hc => ?_⟩
      have := lt_of_heap ho
      exact (he k (by omega)).trans (hkf.2 k o hk ho hc)
    have r0 : V.cell? ⟨Z + 1 + 1, 0, none⟩ = some (.bool false) := cells_at h4 0
    have rf : V.frozen? ⟨Z + 1 + 1, 0, none⟩ = false := frozen_of h4
    have rz := lt_of_heap h4
    have HFIN := hide hfin
    have HJ2 := hide hj2
    have HB6 := hide hB6
    have HM5 := hide hM5
    have HV5 := hide hV5
    clear hj hjz h4 hko hkf h5 hfin hj2 hB5 hB6 hM5 hC5 hV5 h5z
    go_wp2_with fail
    rw [HV5.out]
    exact leave_mark rfl HM5.out (results_one17 rfl _ _ _ rfl (Try.isAgg4 _) (cells_at HB6.out 0)) ⟨HFIN.out, .inl ⟨rfl, HJ2.out⟩⟩
  · rintro M c O' V ⟨rfl, ⟨hj, hjz⟩, h4, ⟨hko, hkf⟩, h5⟩ hM hMM
    rw [HBB.out] at hM
    have hz := lt_of_heap hMM
    have hB6 : BBox (V.putObj M (.deferred none)) (Z + 1 + 1) false := h4.of (World.putObj_heap_other (by omega))
    have hj2 := HH.out.relyx _ O _ (V.putObj M (.deferred none)) hj ⟨rfl, rfl, rfl, by simp, fun k hk hn => World.putObj_heap_other fun e => hn (.inr (.inr ⟨.inl (e.trans hM), hk⟩))⟩
      (fun k hk => ⟨.inl (.inl (HOAO.out k hk)), by have := HO.out k hk; simp; omega⟩)
    have hfin : (KO O W (V.putObj M (.deferred none)) ∧ W.heap.size ≤ (V.putObj M (.deferred none)).heap.size ∧ KF (lp + 1) W (V.putObj M (.deferred none))) := by
      have hz1 := HZZ.out
      have he : ∀ k, k < Z → (V.putObj M (.deferred none)).heap[k]? = V.heap[k]? := fun k hk => World.putObj_heap_other (by omega)
      refine ⟨fun k hk => (he k (HO.out k hk)).trans (hko k hk), by simp; omega, by simp; omega, fun k o hk ho hc => ?_⟩
      have := lt_of_heap ho
      exact (he k (by omega)).trans (hkf.2 k o hk ho hc)
    have HFIN := hide hfin
    have HJ2 := hide hj2
    have HB6 := hide hB6
    clear hj hjz h4 hko hkf h5 hfin hj2 hB6
    go_wp2_with fail
    exact leave_mark rfl hMM (results_one17 rfl _ _ _ rfl (Try.isAgg4 _) (cells_at HB6.out 0)) ⟨HFIN.out, .inr ⟨rfl, HJ2.out⟩⟩
end Go.Proofs.Ytnhgdjiljjpgmaa

namespace Go.Proofs.Ytnhgdjiljjpgmaa
open Go.RowKit
attribute [local go_sem] Oper.semAt_some

/-- The boxes that the recursion captures. -/
structure NEnv (V : World) (bz bn be n lp : Nat) : Prop where
  y : V.heap[bz]? = some (.cells #[.func (.yield lp) #[] #[]] 98 (0, 0))
  e : V.heap[be]? = some (.cells #[.func (.func 66) #[] #[.pointer (some ⟨bn, 0, none⟩), .pointer (some ⟨bz, 0, none⟩), .pointer (some ⟨be, 0, none⟩)]] 99 (0, 0))
theorem NEnv.of {V V' : World} {bz bn be n lp : Nat} (h : NEnv V bz bn be n lp) {OB : Nat → Prop} (hOB : OB bz ∧ OB be) (hk : ∀ k, OB k → V'.heap[k]? = V.heap[k]?) : NEnv V' bz bn be n lp :=
  ⟨(hk _ hOB.1).trans h.y, (hk _ hOB.2).trans h.e⟩
theorem NEnv.ext {V V' : World} {bz bn be n lp : Nat} (h : NEnv V bz bn be n lp) (hE : Ext V V') : NEnv V' bz bn be n lp :=
  ⟨(hE.b.block _ (lt_of_heap h.y)).trans h.y, (hE.b.block _ (lt_of_heap h.e)).trans h.e⟩
def NGoal (n lp bz bn be : Nat) (OB : Nat → Prop) (L : List Gr) (J : Nat → (Nat → Prop) → World → Prop) (Jx : (Nat → Prop) → World → Prop) (k rest : Nat) : Prop :=
  ∀ (g : Gr) (idx : Nat) (O : Nat → Prop) (W : World), (∀ j x, (nextG n k rest g)[j]? = some x → L[idx + j]? = some x) → J idx O W → (∀ k, O k → k < W.heap.size) → (∀ k, OB k → O k) → NEnv W bz bn be n lp → lp < W.heap.size →
    Calls Try.prog 66 #[.int .i64 rest, Gr.v g, .pointer (some ⟨bn, 0, none⟩), .pointer (some ⟨bz, 0, none⟩), .pointer (some ⟨be, 0, none⟩)] W fun e W' =>
      (KO O W W' ∧ W.heap.size ≤ W'.heap.size ∧ KF (lp + 1) W W') ∧ ((e = .returned (.bool true) ∧ J (idx + (nextG n k rest g).length) O W') ∨ (e = .returned (.bool false) ∧ Jx O W'))
set_option maxRecDepth 16000 in
set_option maxHeartbeats 2000000 in
theorem nxt_zero {n lp bz bn be : Nat} {OB : Nat → Prop} {L : List Gr} {J : Nat → (Nat → Prop) → World → Prop} {Jx : (Nat → Prop) → World → Prop} (H : IAsk n lp bn L J Jx) (_hOBB : OB bz ∧ OB be) (k rest : Nat) (hr : andNot (fullN n) rest = 0) (hr32 : rest < 32) (hspec : ∀ g, nextG n k rest g = [g]) : NGoal n lp bz bn be OB L J Jx k rest := by
  intro g idx O W hal hj hO hOB hG hlp
  have HH := hide H
  have hlg : L[idx]? = some g := hal 0 g (by rw [hspec]; rfl)
  have HSP := hide (hspec g)
  have HJ := hide hj
  have HO := hide hO
  have HOB := hide hOB
  have HG := hide hG
  obtain ⟨w2, hw2⟩ : ∃ w2, ((W.alloc (.cells #[.int .i64 rest] 3)).alloc (.cells #[.int .i64 g.n, .int .i64 g.h0, .int .i64 g.h1, .int .i64 g.h2, .int .i64 g.h3, .int .i64 g.h4] 36)).alloc (.cells #[.bool false] 4) = w2 := ⟨_, rfl⟩
  have HE : Hid (Ext W w2) := by show Ext _ _; rw [← hw2]; exact (((Ext.refl W).alloc _).alloc _).alloc _
  have HP : Hid (NBox w2 W.heap.size rest) := by
    show _ = _
    rw [← hw2, Below.heap_alloc _ _ _ (by simp; omega), Below.heap_alloc _ _ _ (by simp)]
    exact heap_alloc_new W _
  have HGB : Hid (GrBox w2 (W.heap.size + 1) g) := by
    show _ = _
    rw [← hw2, Below.heap_alloc _ _ _ (by simp)]
    have := heap_alloc_new (W.alloc (.cells #[.int .i64 rest] 3)) (.cells #[.int .i64 g.n, .int .i64 g.h0, .int .i64 g.h1, .int .i64 g.h2, .int .i64 g.h3, .int .i64 g.h4] 36)
    rwa [World.size_alloc] at this
  have HR : Hid (BBox w2 (W.heap.size + 1 + 1) false) := by
    show _ = _
    rw [← hw2]
    have := heap_alloc_new ((W.alloc (.cells #[.int .i64 rest] 3)).alloc (.cells #[.int .i64 g.n, .int .i64 g.h0, .int .i64 g.h1, .int .i64 g.h2, .int .i64 g.h3, .int .i64 g.h4] 36)) (.cells #[.bool false] 4)
    simpa only [World.size_alloc] using this
  have HW2 := hide hw2
  clear hal hj hO hOB hG hw2
  refine (callsIn_wide (n := 0)).1 ?_
  refine callsIn_of_wp Try.func66 rfl trivial ?_ rfl
  simp only [Try.ntmps66, List.size_toArray, List.length_cons, List.length_nil, Nat.reduceAdd, Nat.reduceSub, Array.replicate_succ, Array.replicate_zero, List.push_toArray, List.append_toArray, List.nil_append, List.cons_append]
  have HG2 := hide (HG.out.ext HE.out)
  have p0 := HP.out.cell
  have zp := lt_of_heap HP.out
  have y0 : w2.cell? ⟨bz, 0, none⟩ = some (.func (.yield lp) #[] #[]) := cells_at HG2.out.y 0
  have zy := lt_of_heap HG2.out.y
  obtain ⟨g0, g1, g2, g3, g4, g5, zg⟩ := HGB.out.cells
  rw [← HW2.out] at p0 zp y0 zy g0 g1 g2 g3 g4 g5 zg
  have hand := andNot_run (full_lt32 H.n5) hr32
  rw [hr] at hand
  have n0 := ((HH.out.told _ _ _ HJ.out).ext HE.out).cell
  have nz := lt_of_heap ((HH.out.told _ _ _ HJ.out).ext HE.out)
  rw [← HW2.out] at n0 nz
  clear hr hr32
  gi_wp2_with fail
  rw [HW2.out] at p0 zp n0 nz ⊢
  have HFL := hide (pfull_any n HH.out.n5)
  refine wpIn_wide.2 (wp_region_ext (by kernel_rfl) (by kernel_rfl) ?_)
  repeat (go_big_quiet_step ((go_at_call 22; exact Calls.ext_same (HFL.out _))))
  refine wpQuiet_nil ?_
  rintro w9 ⟨⟨_, hE9⟩, rfl⟩
  obtain ⟨w4, hw4⟩ : ∃ w4, w4 = w9 := ⟨_, rfl⟩
  subst hw4
  have HX4 : Hid (Ext w2 w4) := hE9
  have HE := hide (HE.out.trans HX4.out)
  have HP := hide (HP.out.ext HX4.out)
  have HGB : Hid (GrBox w4 (W.heap.size + 1) g) := (HX4.out.b.block _ (lt_of_heap HGB.out)).trans HGB.out
  have HR := hide (HR.out.of (HX4.out.b.block _ (lt_of_heap HR.out)))
  have HG2 := hide (HG2.out.ext HX4.out)
  clear HX4 hE9 HW2 HFL p0 zp n0 nz y0 zy g0 g1 g2 g3 g4 g5 zg hand
  obtain ⟨w2, hw2⟩ : ∃ w2, w2 = w4 := ⟨_, rfl⟩
  subst hw2
  have p0 := HP.out.cell
  have zp := lt_of_heap HP.out
  have y0 : w2.cell? ⟨bz, 0, none⟩ = some (.func (.yield lp) #[] #[]) := cells_at HG2.out.y 0
  have zy := lt_of_heap HG2.out.y
  obtain ⟨g0, g1, g2, g3, g4, g5, zg⟩ := HGB.out.cells
  obtain ⟨OC, hOC⟩ : ∃ OC : Nat → Prop, OC = fun k => O k ∨ k = W.heap.size + 1 + 1 := ⟨_, rfl⟩
  have hOCz : ∀ k, OC k → k < w2.heap.size := fun k hk => by
    have hz3 := HE.out.size
    rw [hOC] at hk
    rcases hk with hk | rfl
    · have := HO.out k hk; omega
    · exact lt_of_heap HR.out
  have hj3 : J idx OC w2 := HH.out.rely idx O OC _ _ HJ.out (Off.of_ext HE.out) fun k hk => by
    refine ⟨?_, hOCz k hk⟩
    rw [hOC] at hk
    rcases hk with hk | rfl
    · exact .inl hk
    · exact .inr (by omega)
  obtain ⟨fn, tmps, assign, body, hy, hR⟩ := HH.out.yield idx g OC w2 hlg hj3 hOCz
  have HRR := hide hR
  have HOC := hide hOC
  have HCZ := hide hOCz
  clear hR hj3 hOC hOCz hlg
  gi_wp2_with fail
  refine ⟨rfl, HRR.out.mono ?_⟩
  rintro e w4 ⟨⟨hko, hsz, hkf⟩, hres⟩
  have HR4 := hide (HR.out.of (hko _ (by rw [HOC.out]; exact .inr rfl)))
  have r0 : w4.cell? ⟨W.heap.size + 1 + 1, 0, none⟩ = some (.bool false) := cells_at HR4.out 0
  have rf : w4.frozen? ⟨W.heap.size + 1 + 1, 0, none⟩ = false := frozen_of HR4.out
  have rz := lt_of_heap HR4.out
  have HKO : Hid (∀ u, KO O W (w4.setCell ⟨W.heap.size + 1 + 1, 0, none⟩ u) ∧ W.heap.size ≤ (w4.setCell ⟨W.heap.size + 1 + 1, 0, none⟩ u).heap.size ∧ KF (lp + 1) W (w4.setCell ⟨W.heap.size + 1 + 1, 0, none⟩ u)) := fun u => by
    refine ⟨fun k hk => ?_, ?_, ((KF.of_ext HE.out).trans hkf).trans (KF.setCell _ _ _)⟩
    · have h1 := HO.out k hk
      exact (Below.heap_setCell _ _ _ _ (show k ≠ W.heap.size + 1 + 1 by omega)).trans ((hko k (by rw [HOC.out]; exact .inl hk)).trans (HE.out.b.block k h1))
    · have := HE.out.size
      simp; omega
  have HPUT := hide (fun u => HR4.out.put u)
  have HOFF : Hid (∀ u, Off OC w4 (w4.setCell ⟨W.heap.size + 1 + 1, 0, none⟩ u)) := fun u => (Off.refl OC w4).setCell (by rw [HOC.out]; exact .inr rfl) u
  have HGR : Hid (∀ u, Grow OC O w4 (w4.setCell ⟨W.heap.size + 1 + 1, 0, none⟩ u)) := fun u k hk => ⟨.inl (by rw [HOC.out]; exact .inl hk), by have := HO.out k hk; have := HE.out.size; simp; omega⟩
  clear hko hsz hkf hy HRR y0 zy p0 zp g0 g1 g2 g3 g4 g5 zg
  rcases hres with ⟨rfl, hJ'⟩ | ⟨rfl, hJx'⟩
  · have HJ4 := hide hJ'
    clear hJ'
    gi_wp2_with fail
    refine bodyPost_ret (results_one17 rfl _ _ _ rfl (Try.isAgg4 _) (cells_at (HPUT.out true) 0)) rfl ⟨HKO.out _, .inl ⟨rfl, ?_⟩⟩
    rw [HSP.out]
    exact HH.out.rely _ _ _ _ _ HJ4.out (HOFF.out _) (HGR.out _)
  · have HJ4 := hide hJx'
    clear hJx'
    gi_wp2_with fail
    refine bodyPost_ret (results_one17 rfl _ _ _ rfl (Try.isAgg4 _) (cells_at (HPUT.out false) 0)) rfl ⟨HKO.out _, .inr ⟨rfl, ?_⟩⟩
    exact HH.out.relyx _ _ _ _ HJ4.out (HOFF.out _) (HGR.out _)
theorem nextG_succ {n k seen : Nat} {g : Gr} (h : andNot (fullN n) seen ≠ 0) : nextG n (k + 1) seen g = (subsL (andNot (fullN n) seen)).flatMap fun x => if x = 0 then [] else nextG n k (seen ||| x) (hfold n x (seen ||| x) g) := by
  simp only [nextG, if_neg h]; rfl
theorem next_table : ((List.range 6).all fun n => (List.range (2 ^ n)).all fun seen => (subsL (andNot (fullN n) seen)).all fun x => x == 0 || decide (sizeN (andNot (fullN n) (seen ||| x)) < sizeN (andNot (fullN n) seen))) = true := by decide +kernel
theorem next_ok {n seen x : Nat} (hn : n ≤ 5) (h : seen < 2 ^ n) (hx : x ∈ subsL (andNot (fullN n) seen)) (h0 : x ≠ 0) : sizeN (andNot (fullN n) (seen ||| x)) < sizeN (andNot (fullN n) seen) := by
  have t := next_table
  rw [List.all_eq_true] at t
  have t := t n (List.mem_range.2 (by omega))
  rw [List.all_eq_true] at t
  have t := t seen (List.mem_range.2 h)
  rw [List.all_eq_true] at t
  have t := t x hx
  rw [Bool.or_eq_true] at t
  rcases t with t | t
  · exact absurd (by simpa using t) h0
  · exact of_decide_eq_true t
set_option maxRecDepth 16000 in
set_option maxHeartbeats 8000000 in
theorem nxt_succ {n lp bz bn be : Nat} {OB : Nat → Prop} {L : List Gr} {J : Nat → (Nat → Prop) → World → Prop} {Jx : (Nat → Prop) → World → Prop} (H : IAsk n lp bn L J Jx) (hOBB : OB bz ∧ OB be) (k rest : Nat) (hr : rest < 2 ^ n) (hr0 : andNot (fullN n) rest ≠ 0) (IH : ∀ r, r < 2 ^ n → sizeN (andNot (fullN n) r) < sizeN (andNot (fullN n) rest) → NGoal n lp bz bn be OB L J Jx k r) : NGoal n lp bz bn be OB L J Jx (k + 1) rest := by
  intro g idx O W hal hj hO hOB hG hlp
  have HH := hide H
  have HOBB := hide hOBB
  have HAL := hide hal
  have HJ := hide hj
  have HO := hide hO
  have HOB := hide hOB
  have HG := hide hG
  have HLP := hide hlp
  have h32 := pow32_le H.n5
  have HIH := hide IH
  have HR32 := hide (show rest < 32 by omega)
  have HRN := hide hr
  have hf32 := full_lt32 H.n5
  have hand := andNot_run hf32 (show rest < 32 by omega)
  have HSP : Hid (nextG n (k + 1) rest g = (subsL (andNot (fullN n) rest)).flatMap fun x => if x = 0 then [] else nextG n k (rest ||| x) (hfold n x (rest ||| x) g)) := nextG_succ hr0
  have HNX : Hid (∀ x ∈ subsL (andNot (fullN n) rest), x ≠ 0 → sizeN (andNot (fullN n) (rest ||| x)) < sizeN (andNot (fullN n) rest)) := fun x hx h0 => next_ok H.n5 hr hx h0
  have HLT : Hid (∀ x ∈ subsL (andNot (fullN n) rest), x < 32 ∧ rest ||| x < 2 ^ n) := fun x hx => ⟨Nat.lt_of_le_of_lt (Nat.le_trans (sub_le hx) (andNot_le _ _)) hf32, more_lt hr hx⟩
  have HAN : Hid (andNot (fullN n) rest < 32) := andNot_lt hf32 (show rest < 32 by omega)
  have hd : (((andNot (fullN n) rest : Nat) : Int) == 0) = false := by rw [beq_eq_false_iff_ne]; omega
  have hd2 : (andNot (fullN n) rest == 0) = false := by rw [beq_eq_false_iff_ne]; exact hr0
  have n0 := (H.told _ _ _ hj).cell
  have nz := lt_of_heap (H.told _ _ _ hj)
  obtain ⟨w2, hw2⟩ : ∃ w2, ((W.alloc (.cells #[.int .i64 rest] 3)).alloc (.cells #[.int .i64 g.n, .int .i64 g.h0, .int .i64 g.h1, .int .i64 g.h2, .int .i64 g.h3, .int .i64 g.h4] 36)).alloc (.cells #[.bool false] 4) = w2 := ⟨_, rfl⟩
  have HE : Hid (Ext W w2) := by show Ext _ _; rw [← hw2]; exact (((Ext.refl W).alloc _).alloc _).alloc _
  have HP : Hid (NBox w2 W.heap.size rest) := by
    show _ = _
    rw [← hw2, Below.heap_alloc _ _ _ (by simp; omega), Below.heap_alloc _ _ _ (by simp)]
    exact heap_alloc_new W _
  have HGB : Hid (GrBox w2 (W.heap.size + 1) g) := by
    show _ = _
    rw [← hw2, Below.heap_alloc _ _ _ (by simp)]
    have := heap_alloc_new (W.alloc (.cells #[.int .i64 rest] 3)) (.cells #[.int .i64 g.n, .int .i64 g.h0, .int .i64 g.h1, .int .i64 g.h2, .int .i64 g.h3, .int .i64 g.h4] 36)
    rwa [World.size_alloc] at this
  have HR : Hid (BBox w2 (W.heap.size + 1 + 1) false) := by
    show _ = _
    rw [← hw2]
    have := heap_alloc_new ((W.alloc (.cells #[.int .i64 rest] 3)).alloc (.cells #[.int .i64 g.n, .int .i64 g.h0, .int .i64 g.h1, .int .i64 g.h2, .int .i64 g.h3, .int .i64 g.h4] 36)) (.cells #[.bool false] 4)
    simpa only [World.size_alloc] using this
  have HW2 := hide hw2
  have p0 := HP.out.cell
  have zp := lt_of_heap HP.out
  rw [← hw2] at p0 zp
  generalize andNot (fullN n) rest = an at hand hd hd2 HSP HNX HLT HAN HIH
  clear hal hj hO hOB hG hlp IH hr hr0 hw2 H hf32
  refine calls_of_wp_m Try.func66 rfl ?_
  simp only [Try.ntmps66, List.size_toArray, List.length_cons, List.length_nil, Nat.reduceAdd, Nat.reduceSub, Array.replicate_succ, Array.replicate_zero, List.push_toArray, List.append_toArray, List.nil_append, List.cons_append]
  go_wp2_with fail
  rw [HW2.out] at p0 zp ⊢
  have n0 := ((HH.out.told _ _ _ HJ.out).ext HE.out).cell
  have nz := lt_of_heap ((HH.out.told _ _ _ HJ.out).ext HE.out)
  have HFL := hide (pfull_any n HH.out.n5)
  refine wp_region_ext (by kernel_rfl) (by kernel_rfl) ?_
  repeat (go_big_quiet_step ((go_at_call 22; exact Calls.ext_same (HFL.out _))))
  refine wpQuiet_nil ?_
  rintro w9 ⟨⟨_, hE9⟩, rfl⟩
  obtain ⟨w4, hw4⟩ : ∃ w4, w4 = w9 := ⟨_, rfl⟩
  subst hw4
  have HE9 : Hid (Ext w2 w4) := hE9
  clear hE9
  go_wp2_with fail
  refine (pparts_any an w4).mono ?_
  rintro e w3 ⟨rfl, hlow, hE34⟩
  have hE3 : Ext w2 w3 := HE9.out.trans hE34
  have hz94 := HE9.out.size
  have hz43 := hE34.size
  have HE3 := hide (HE.out.trans hE3)
  have hz2 : W.heap.size + 1 + 1 < w2.heap.size := lt_of_heap HR.out
  have HP3 := hide (HP.out.ext hE3)
  have HG3 : Hid (GrBox w3 (W.heap.size + 1) g) := (hE3.b.block _ (lt_of_heap HGB.out)).trans HGB.out
  have HR3 := hide (HR.out.of (hE3.b.block _ (lt_of_heap HR.out)))
  have HLO := hide hlow
  have HW3 : Hid (w2.heap.size ≤ w3.heap.size) := hE3.size
  clear p0 zp n0 nz HFL hlow hE3 hE34 HE9 hd hd2 HGB HR HP HE HW2 hand
  go_wp2_with fail
  obtain ⟨gl, hgl⟩ : ∃ gl, w4.heap.size = gl := ⟨_, rfl⟩
  obtain ⟨Z, hZ⟩ : ∃ Z, W.heap.size = Z := ⟨_, rfl⟩
  obtain ⟨B, hB⟩ : ∃ B, w3.heap.size = B := ⟨_, rfl⟩
  obtain ⟨OA, hOA⟩ : ∃ OA : Nat → Prop, OA = fun k => O k ∨ k = Z ∨ k = Z + 1 ∨ k = Z + 1 + 1 := ⟨_, rfl⟩
  obtain ⟨F, hF⟩ : ∃ F : Nat → List Gr, F = fun x : Nat => if x = 0 then [] else nextG n k (rest ||| x) (hfold n x (rest ||| x) g) := ⟨_, rfl⟩
  obtain ⟨RL, hRL⟩ : ∃ RL, subsL an = RL := ⟨_, rfl⟩
  have hzB : Z + 1 + 1 < B := by have := HW3.out; omega
  have hghz := lt_of_heap HLO.out
  rw [hgl] at HLO
  have HGLH : Hid (Z + 1 + 1 < gl ∧ gl < B) := ⟨by omega, by omega⟩
  have HOAO : Hid (∀ k, O k → OA k) := fun k hk => by rw [hOA]; exact .inl hk
  have HOAB : Hid (OA Z ∧ OA (Z + 1) ∧ OA (Z + 1 + 1)) := by rw [hOA]; exact ⟨.inr (.inl rfl), .inr (.inr (.inl rfl)), .inr (.inr (.inr rfl))⟩
  have HOAZ : Hid (∀ k, OA k → k < Z + 1 + 1 + 1) := fun k hk => by
    rw [hOA] at hk
    rcases hk with hk | rfl | rfl | rfl
    · have := HO.out k hk; omega
    · omega
    · omega
    · omega
  have HJ3 : Hid (J idx (fun k => OA k ∨ (k = gl) ∨ ((k = B ∨ k = B + 1) ∧ k < w3.heap.size)) w3) := by
    refine HH.out.rely idx O _ _ _ HJ.out (Off.of_ext HE3.out) fun k hk => ?_
    have hg4 := HGLH.out
    rcases hk with hk | hk | ⟨hk, hlt⟩
    · have hk2 := HOAZ.out k hk
      rw [hOA] at hk
      rcases hk with hk | hk | hk | hk
      · exact ⟨.inl hk, by have := HO.out k hk; omega⟩
      · exact ⟨.inr (by omega), by omega⟩
      · exact ⟨.inr (by omega), by omega⟩
      · exact ⟨.inr (by omega), by omega⟩
    · exact ⟨.inr (by omega), by omega⟩
    · exfalso; omega
  have HEG : Hid (nextG n (k + 1) rest g = RL.flatMap F) := by show _ = _; rw [HSP.out, hF, hRL]
  have HLX2 : Hid (∀ x ∈ RL, (x < 32 ∧ rest ||| x < 2 ^ n) ∧ (x ≠ 0 → sizeN (andNot (fullN n) (rest ||| x)) < sizeN an)) := by rw [← hRL]; exact fun x hx => ⟨HLT.out x hx, HNX.out x hx⟩
  have HSEQ : Hid (SeqY Try.prog 74 #[.pointer (some ⟨gl, 0, none⟩)] (fun W => NBox W gl an) (fun k => k = gl) (fun _ => True) RL.length (fun i _ x _ => x = #[.int .i64 (RL.getD i 0 : Nat)])) := by
    rw [← hRL]
    exact (pparts_seq an HAN.out gl).toY
  rw [hZ] at HP3 HG3 HR3 HO HLP
  have HZZ := hide hZ
  have HBB := hide hB
  have hlpB : lp + 1 ≤ B := by have := HLP.out; omega
  have HFF := hide hF
  clear hOA hF HJ hghz hz2 HW3 hRL HSP HNX HLT HAN
  rw [hZ, hgl]
  clear hgl
  refine wp_rangeY (n := RL.length) rfl enters_pparts1 HSEQ.out (fun i O x V hi hX => by rw [hX]; rfl)
    (fun i O' V => (J (idx + ((RL.take i).flatMap F).length) (fun k => OA k ∨ O' k ∨ ((k = B ∨ k = B + 1) ∧ k < V.heap.size)) V ∧ ∀ k, OA k → k < V.heap.size) ∧
      (NBox V Z rest ∧ GrBox V (Z + 1) g ∧ BBox V (Z + 1 + 1) false) ∧ (KO O W V ∧ KF (lp + 1) W V) ∧ ∀ k, O' k → Z ≤ k ∧ ¬ OA k)
    (fun c O' V => c = .ret ∧ (Jx (fun k => OA k ∨ O' k ∨ ((k = B ∨ k = B + 1) ∧ k < V.heap.size)) V ∧ ∀ k, OA k → k < V.heap.size) ∧ BBox V (Z + 1 + 1) false ∧ (KO O W V ∧ KF (lp + 1) W V) ∧ ∀ k, O' k → Z ≤ k ∧ ¬ OA k) ?_ ?_ ?_ ?_ ?_ ?_ ?_ ?_ ?_
  · exact fun _ _ _ _ => trivial
  · intro i
    rw [HBB.out]
    refine rely_rec (HH.out.rely _) (fun k hk => by have := HOAZ.out k hk; omega) HOAO.out ?_ HZZ.out (by omega)
    rintro V V' ⟨h1, h2, h4⟩ keep
    exact ⟨h1.of (keep _ HOAB.out.1), (keep _ HOAB.out.2.1).trans h2, h4.of (keep _ HOAB.out.2.2)⟩
  · rintro c O1 O2 V V' ⟨hc, h⟩ hoff hG
    rw [HBB.out] at hoff
    exact ⟨hc, rely_rec (S := fun V => BBox V (Z + 1 + 1) false) HH.out.relyx (fun k hk => by have := HOAZ.out k hk; omega) HOAO.out (fun V V' h1 keep => h1.of (keep _ HOAB.out.2.2)) HZZ.out (by omega) O1 O2 V V' h hoff hG⟩
  · exact fun V hE => HLO.out.ext hE
  · rintro k hk
    have := HGLH.out
    cases hk; omega
  · have hz := HZZ.out
    have hg4 := HGLH.out
    refine ⟨⟨by simpa using HJ3.out, fun k hk => by have := HOAZ.out k hk; omega⟩, ⟨HP3.out, HG3.out, HR3.out⟩, ⟨fun k hk => HE3.out.b.block k (by have := HO.out k hk; omega), KF.of_ext HE3.out⟩, fun k hk => ⟨?_, fun ha => ?_⟩⟩
    · cases hk; omega
    · have := HOAZ.out k ha
      cases hk; omega
  · rintro l i x O' V hi rfl ⟨⟨hj, hjz⟩, ⟨h2, h3, h4⟩, ⟨hko, hkf⟩, h5⟩ hOV hl hlV
    rw [HBB.out] at hl ⊢
    obtain ⟨row, hrow⟩ : ∃ row, RL.getD i 0 = row := ⟨_, rfl⟩
    have hRi : RL[i]? = some row := by rw [← hrow, List.getD_eq_getElem?_getD, List.getElem?_eq_getElem hi]; rfl
    obtain ⟨OC, hOC⟩ : ∃ OC : Nat → Prop, OC = fun k => OA k ∨ O' k ∨ ((k = B ∨ k = B + 1) ∧ k < V.heap.size) := ⟨_, rfl⟩
    rw [← hOC] at hj
    rw [hrow]
    gi_wp2_with fail
    refine ⟨⟨KF.refl _ _, fun _ _ => rfl⟩, fun V2 hC hrec => ?_⟩
    have hz := HZZ.out
    have keep : ∀ k, OA k → V2.heap[k]? = V.heap[k]? := fun k hk => hC.block k (hjz k hk) fun e => by have := HOAZ.out k hk; omega
    have hOCz : ∀ k, OC k → k < V2.heap.size := fun k hk => by
      have := hC.size
      rw [hOC] at hk
      rcases hk with hk | hk | ⟨_, hk⟩
      · have := hjz k hk; omega
      · have := hOV k hk; omega
      · omega
    have hOCl : OC l := by rw [hOC, hl]; exact .inr (.inr ⟨.inr rfl, by omega⟩)
    have hj2 := HH.out.rely _ OC OC V V2 hj ⟨hC.os, hC.tape, hC.output, hC.size, fun k hk hn => hC.block k hk fun e => hn (by rw [e]; exact hOCl)⟩ (fun k hk => ⟨.inl hk, hOCz k hk⟩)
    have hko2 : KO O W V2 := fun k hk => (keep k (HOAO.out k hk)).trans (hko k hk)
    have hkf2 : KF (lp + 1) W V2 := ⟨Nat.le_trans hkf.1 hC.size, fun k o hk ho hc => by
      have hV := hkf.2 k o hk ho hc
      have hlt := lt_of_heap ho
      exact (hC.block k (lt_of_heap hV) fun e => by omega).trans hV⟩
    have HJ2 := hide hj2
    have HKO2 := hide hko2
    have HKF2 := hide hkf2
    have HG2 : Hid (NEnv V2 bz bn be n lp) := HG.out.of HOBB.out fun k hk => hko2 k (HOB.out k hk)
    have H2 : Hid (NBox V2 Z rest ∧ GrBox V2 (Z + 1) g ∧ BBox V2 (Z + 1 + 1) false) := ⟨h2.of (keep _ HOAB.out.1), (keep _ HOAB.out.2.1).trans h3, h4.of (keep _ HOAB.out.2.2)⟩
    have HV2 : Hid (V.heap.size ≤ V2.heap.size) := hC.size
    have HOC := hide hOC
    have HCZ : Hid (∀ k, OC k → k < V2.heap.size) := hOCz
    have HRI := hide hRi
    have HH5 := hide h5
    have HOV := hide hOV
    have HREC := hide hrec
    obtain ⟨g0, g1, g2, g3, g4, g5, gz⟩ := H2.out.2.1.cells
    have n0 := (HH.out.told _ _ _ HJ2.out).cell
    have nz := lt_of_heap (HH.out.told _ _ _ HJ2.out)
    have p0 := H2.out.1.cell
    have zp := lt_of_heap H2.out.1
    have HROW32 := hide (HLX2.out row (List.mem_of_getElem? HRI.out)).1
    have HRSZ := hide (HLX2.out row (List.mem_of_getElem? HRI.out)).2
    clear hj hj2 hko hko2 hkf hkf2 h2 h3 h4 h5 hOV hjz hC keep hOCz hOCl hRi hOC hrow hrec
    by_cases hx0 : row = 0
    · have hx1 : ((row : Int) == 0) = true := by rw [hx0]; rfl
      have hx2 : (row == 0) = true := by rw [hx0]; rfl
      have HX0 := hide hx0
      clear hx0
      gi_wp2_with fail
      refine ⟨⟨KF.refl _ _, fun _ _ => rfl⟩, ⟨?_, fun k hk => HCZ.out k (by rw [HOC.out]; exact .inl hk)⟩, H2.out, ⟨HKO2.out, HKF2.out⟩, HH5.out⟩
      rw [flat_off F RL i row HRI.out, show F row = [] by rw [HFF.out]; exact if_pos HX0.out, List.length_nil, Nat.add_zero]
      refine HH.out.rely _ _ _ _ _ HJ2.out (Off.refl _ _) fun k hk => ?_
      rcases hk with hk | hk | ⟨hk, h3⟩
      · have h1 : OC k := by rw [HOC.out]; exact .inl hk
        exact ⟨.inl h1, HCZ.out k h1⟩
      · have h1 : OC k := by rw [HOC.out]; exact .inr (.inl hk)
        exact ⟨.inl h1, HCZ.out k h1⟩
      · exact ⟨.inl (by rw [HOC.out]; exact .inr (.inr ⟨hk, by rcases hk with rfl | rfl <;> omega⟩)), h3⟩
    have hx1 : ((row : Int) == 0) = false := by rw [beq_eq_false_iff_ne]; omega
    have hx2 : (row == 0) = false := by rw [beq_eq_false_iff_ne]; exact hx0
    have HX0 := hide hx0
    clear hx0
    gi_wp2_with fail
    obtain ⟨hb, hhb⟩ : ∃ hb, V2.heap.size = hb := ⟨_, rfl⟩
    obtain ⟨V3, hV3⟩ : ∃ V3, V2.alloc (.cells #[.int .i64 g.n, .int .i64 g.h0, .int .i64 g.h1, .int .i64 g.h2, .int .i64 g.h3, .int .i64 g.h4] 36) = V3 := ⟨_, rfl⟩
    have HL0 : Hid (GrBox V3 hb (hfold 0 row (rest ||| row) g) ∧ V3.heap.size = hb + 1 ∧ (V3.os = V2.os ∧ V3.tape = V2.tape ∧ V3.output = V2.output) ∧ ∀ k, k < hb → V3.heap[k]? = V2.heap[k]?) := by
      rw [← hV3, ← hhb]
      exact ⟨heap_alloc_new _ _, by simp, ⟨rfl, rfl, rfl⟩, fun k hk => Below.heap_alloc _ _ _ hk⟩
    rw [hV3, hhb]
    have HHB := hide hhb
    have hn5 := HH.out.n5
    have hor := or_run HR32.out HROW32.out.1
    obtain ⟨sen, hsen⟩ : ∃ sen, rest ||| row = sen := ⟨_, rfl⟩
    rw [hsen] at hor HROW32 HRSZ HL0
    have HSEN := hide hsen
    clear hV3 hhb g0 g1 g2 g3 g4 g5 gz n0 nz p0 zp hsen
    have HOCA0 : Hid (∀ k, OA k → OC k) := fun k hk => by rw [HOC.out]; exact .inl hk
    gi_loopw [28] (fun v V' => ∃ i2 : Nat, i2 ≤ n ∧ v = .int .i64 i2 ∧ Hid (GrBox V' hb (hfold i2 row sen g) ∧ V'.heap.size = hb + 1 ∧ (V'.os = V2.os ∧ V'.tape = V2.tape ∧ V'.output = V2.output) ∧ ∀ k, k < hb → V'.heap[k]? = V2.heap[k]?)) (fun v _ => n - (intOf v).toNat)
    case atStart => exact ⟨0, Nat.zero_le _, rfl, HL0.out⟩
    case round =>
      clear HL0 V3
      obtain ⟨i2, hi2, rfl, HI⟩ := hrel
      by_cases hlt : i2 < n
      · have hi64 : (i2 : Int) < 64 := by omega
        have hi5 : (i2 : Int) < 5 := by omega
        have hb5 := H2.out.1.of (HI.out.2.2.2 Z (by have := HCZ.out Z (HOCA0.out Z HOAB.out.1); have := HHB.out; omega))
        have p0 := hb5.cell
        have zp := lt_of_heap hb5
        clear hb5
        obtain ⟨c0, cf⟩ := HI.out.1.row (p := i2) (by omega)
        have cz := lt_of_heap HI.out.1
        have hbit := bit_run (x := row) (p := i2) HROW32.out.1 (by omega)
        cases hc : bit row i2 with
        | false =>
          rw [hc] at hbit
          have HC := hide hc
          clear hc
          gi_wp2_with fail
          exact ⟨⟨i2 + 1, by omega, by simp, by rw [hfold_succ, HC.out]; exact HI.out⟩, by simp [intOf]; omega⟩
        | true =>
          rw [hc] at hbit
          have HC := hide hc
          clear hc
          gi_wp2_with fail
          refine ⟨⟨i2 + 1, by omega, by simp, ?_⟩, by simp [intOf]; omega⟩
          show GrBox _ _ _ ∧ _ ∧ _ ∧ _
          obtain ⟨h1, h2, h3, h4⟩ := HI.out
          rw [hfold_succ, HC.out, if_pos rfl]
          exact ⟨h1.set (by omega) _, by simpa using h2, h3, fun k hk => (Below.heap_setCell _ _ _ _ (by show k ≠ hb; omega)).trans (h4 k hk)⟩
      · have hin : i2 = n := by omega
        rw [hin] at HI ⊢
        obtain ⟨V4, hV4⟩ : ∃ V4, V4 = wr := ⟨_, rfl⟩
        subst hV4
        obtain ⟨gs, hgs⟩ : ∃ gs, hfold n row sen g = gs := ⟨_, rfl⟩
        rw [hgs] at HI
        have HGS := hide hgs
        obtain ⟨hgb, hz4, hos4, hk4⟩ := HI.out
        have hz := HZZ.out
        have hhb := HHB.out
        have hg4 := HGLH.out
        have hv2 := HV2.out
        have hOCz := HCZ.out
        have hOCA : ∀ k, OA k → OC k := fun k hk => by rw [HOC.out]; exact .inl hk
        have HOCA := hide hOCA
        have hlow : ∀ k, OC k → V4.heap[k]? = V2.heap[k]? := fun k hk => hk4 k (by have := hOCz k hk; omega)
        have HLOW := hide hlow
        have HG4 : Hid (NEnv V4 bz bn be n lp) := HG2.out.of HOBB.out fun k hk => hlow k (hOCA k (HOAO.out k (HOB.out k hk)))
        have H4 : Hid (NBox V4 Z rest ∧ GrBox V4 (Z + 1) g ∧ BBox V4 (Z + 1 + 1) false) := ⟨H2.out.1.of (hlow _ (hOCA _ HOAB.out.1)), (hlow _ (hOCA _ HOAB.out.2.1)).trans H2.out.2.1, H2.out.2.2.of (hlow _ (hOCA _ HOAB.out.2.2))⟩
        have HKO4 : Hid (KO O W V4) := fun k hk => (hlow k (hOCA k (HOAO.out k hk))).trans (HKO2.out k hk)
        have hkf24 : ∀ M, KF M V2 V4 := fun M => ⟨by omega, fun k o hk ho hc => (hk4 k (by have := lt_of_heap ho; omega)).trans ho⟩
        have HKF24 := hide hkf24
        have HKF4 := hide (HKF2.out.trans (hkf24 (lp + 1)))
        have HJ4 : Hid (J (idx + ((RL.take i).flatMap F).length) OC V4) := HH.out.rely _ OC OC V2 V4 HJ2.out ⟨hos4.1, hos4.2.1, hos4.2.2, by omega, fun k hk hn => hk4 k (by omega)⟩ (fun k hk => ⟨.inl hk, by have := hOCz k hk; omega⟩)
        have HCZ4 : Hid (∀ k, OC k → k < V4.heap.size) := fun k hk => by have := hOCz k hk; omega
        have HZ4 : Hid (V2.heap.size ≤ V4.heap.size) := by show _ ≤ _; omega
        obtain ⟨g0, g1, g2, g3, g4, g5, gz⟩ := hgb.cells
        have p0 := H4.out.1.cell
        have zp := lt_of_heap H4.out.1
        have e0 : V4.cell? ⟨be, 0, none⟩ = some _ := cells_at HG4.out.e 0
        have ze := lt_of_heap HG4.out.e
        clear hgs hgb hz4 hos4 hk4 hOCz hOCA hlow hkf24 HI hin hi2 hlt
        gi_wp2_with fail
        refine ⟨trivial, rfl, CallsIn.inRound _ ((callsIn_wide (n := 0)).2 ((HIH.out sen HROW32.out.2 (HRSZ.out HX0.out) gs _ OC V4 ?_ HJ4.out HCZ4.out ?_ HG4.out ?_).mono ?_))⟩
        · intro j x hx
          rw [Nat.add_assoc]
          exact HAL.out _ x (by rw [HEG.out]; exact flat_at F RL i row j x HRI.out (by rw [HFF.out]; show (if row = 0 then [] else nextG n k (rest ||| row) (hfold n row (rest ||| row) g))[j]? = _; rw [if_neg HX0.out, HSEN.out, HGS.out]; exact hx))
        · intro k hk
          exact HOCA.out k (HOAO.out k (HOB.out k hk))
        · have := HLP.out
          have := HV2.out
          have := HZ4.out
          omega
        rintro e V5 ⟨⟨hko5, hsz5, hkf5⟩, hres⟩
        have hz4 := HZ4.out
        have HO5 : Hid (KO O' V2 V5 ∧ ¬ O' (Z + 1 + 1)) := ⟨fun k hk => (hko5 k (by rw [HOC.out]; exact .inr (.inl hk))).trans (HLOW.out k (by rw [HOC.out]; exact .inr (.inl hk))), fun h => (HH5.out _ h).2 HOAB.out.2.2⟩
        have HKFB : Hid (KF B V2 V5) := KF.trans (HKF24.out B) (hkf5.up hlpB)
        have HK5 : Hid (KO O W V5 ∧ KF (lp + 1) W V5) := ⟨fun k hk => (hko5 k (HOCA.out k (HOAO.out k hk))).trans (HKO4.out k hk), HKF4.out.trans hkf5⟩
        have HB5 : Hid (NBox V5 Z rest ∧ GrBox V5 (Z + 1) g ∧ BBox V5 (Z + 1 + 1) false) := ⟨H4.out.1.of (hko5 _ (HOCA.out _ HOAB.out.1)), (hko5 _ (HOCA.out _ HOAB.out.2.1)).trans H4.out.2.1, H4.out.2.2.of (hko5 _ (HOCA.out _ HOAB.out.2.2))⟩
        have HGW : Hid (∀ V6 : World, V6.heap.size = V5.heap.size → Grow OC (fun k => OA k ∨ O' k ∨ ((k = B ∨ k = B + 1) ∧ k < V6.heap.size)) V5 V6) := fun V6 h6 k hk => by
          rcases hk with hk | hk | ⟨hk, h3⟩
          · exact ⟨.inl (HOCA.out k hk), by have := HCZ4.out k (HOCA.out k hk); omega⟩
          · have h1 : OC k := by rw [HOC.out]; exact .inr (.inl hk)
            exact ⟨.inl h1, by have := HCZ4.out k h1; omega⟩
          · exact ⟨.inl (by rw [HOC.out]; exact .inr (.inr ⟨hk, by rcases hk with rfl | rfl <;> omega⟩)), h3⟩
        have HBD : Hid (∀ k, OA k → k < V5.heap.size) := fun k hk => by have := HCZ4.out k (HOCA.out k hk); omega
        have HOCR : Hid (OC (Z + 1 + 1)) := HOCA.out _ HOAB.out.2.2
        clear hko5 hkf5 hsz5 e0 ze p0 zp g0 g1 g2 g3 g4 g5 gz
        rcases hres with ⟨rfl, hJ'⟩ | ⟨rfl, hJx'⟩
        · have HJ' := hide (HH.out.rely _ _ _ _ _ hJ' (Off.refl _ _) (HGW.out V5 rfl))
          clear hJ'
          gi_wp2_with fail
          refine ⟨⟨HKFB.out, HO5.out.1⟩, ⟨?_, HBD.out⟩, HB5.out, HK5.out, HH5.out⟩
          rw [flat_off F RL i row HRI.out, show F row = nextG n k sen gs by rw [HFF.out, ← HGS.out, ← HSEN.out]; exact if_neg HX0.out, ← Nat.add_assoc]
          exact HJ'.out
        · have HJ' := hide (HH.out.relyx OC _ V5 _ hJx' ((Off.refl OC V5).setCell (a := ⟨Z + 1 + 1, 0, none⟩) HOCR.out (.bool false)) (HGW.out _ (by simp)))
          have HKS := hide (KFO.trans (B := B) (O := O') ⟨HKFB.out, HO5.out.1⟩ (KFO.setCell V5 ⟨Z + 1 + 1, 0, none⟩ (.bool false) HO5.out.2))
          have HBS := hide (HB5.out.2.2.put false)
          have r0 : V5.cell? ⟨Z + 1 + 1, 0, none⟩ = some (.bool false) := cells_at HB5.out.2.2 0
          have rf : V5.frozen? ⟨Z + 1 + 1, 0, none⟩ = false := frozen_of HB5.out.2.2
          have rz := lt_of_heap HB5.out.2.2
          have HKK : Hid (KO O W (V5.setCell ⟨Z + 1 + 1, 0, none⟩ (.bool false)) ∧ KF (lp + 1) W (V5.setCell ⟨Z + 1 + 1, 0, none⟩ (.bool false))) :=
            ⟨fun k hk => (Below.heap_setCell _ _ _ _ (show k ≠ Z + 1 + 1 by have := HO.out k hk; omega)).trans (HK5.out.1 k hk), HK5.out.2.trans (KF.setCell _ _ _)⟩
          have HBD5 : Hid (∀ k, OA k → k < (V5.setCell ⟨Z + 1 + 1, 0, none⟩ (.bool false)).heap.size) := fun k hk => by have := HBD.out k hk; simpa using this
          clear hJx'
          gi_wp2_with fail
          exact ⟨HKS.out, rfl, ⟨HJ'.out, HBD5.out⟩, HBS.out, HKK.out, HH5.out⟩
  · rintro M O' V ⟨⟨hj, hjz⟩, ⟨-, -, h4⟩, ⟨hko, hkf⟩, h5⟩ hM hMM
    rw [HBB.out] at hM
    have hz := lt_of_heap hMM
    rw [List.take_length, ← HEG.out] at hj
    obtain ⟨V5, hV5⟩ : ∃ V5, V.setCell ⟨Z + 1 + 1, 0, none⟩ (.bool true) = V5 := ⟨_, rfl⟩
    have h5z : V5.heap.size = V.heap.size := by rw [← hV5]; simp
    have hC5 : ∀ k, k ≠ Z + 1 + 1 → V5.heap[k]? = V.heap[k]? := fun k hk => by rw [← hV5]; exact Below.heap_setCell _ _ _ _ hk
    have hM5 : V5.heap[M]? = some (.deferred (some [])) := (hC5 M (by omega)).trans hMM
    have hB5 : BBox V5 (Z + 1 + 1) true := by rw [← hV5]; exact h4.put true
    have hB6 : BBox (V5.putObj M (.deferred none)) (Z + 1 + 1) true := hB5.of (World.putObj_heap_other (by omega))
    have hj2 := HH.out.rely _ _ O _ (V5.putObj M (.deferred none)) hj ⟨by rw [← hV5]; rfl, by rw [← hV5]; rfl, by rw [← hV5]; rfl, by simp [h5z], fun k hk hn => (World.putObj_heap_other fun e => hn (.inr (.inr ⟨.inl (e.trans hM), hk⟩))).trans (hC5 k fun e => hn (.inl (by rw [e]; exact HOAB.out.2.2)))⟩
      (fun k hk => ⟨.inl (.inl (HOAO.out k hk)), by have := HO.out k hk; simp; omega⟩)
    have hfin : (KO O W (V5.putObj M (.deferred none)) ∧ W.heap.size ≤ (V5.putObj M (.deferred none)).heap.size ∧ KF (lp + 1) W (V5.putObj M (.deferred none))) := by
      have hz1 := HZZ.out
      have he : ∀ k, k < Z → (V5.putObj M (.deferred none)).heap[k]? = V.heap[k]? := fun k hk => (World.putObj_heap_other (by omega)).trans (hC5 k (by omega))
      refine ⟨fun k hk => (he k (HO.out k hk)).trans (hko k hk), by simp; omega, by simp; omega, fun k o hk ho hc => ?_⟩
      have := lt_of_heap ho
      exact (he k (by omega)).trans (hkf.2 k o hk ho hc)
    have r0 : V.cell? ⟨Z + 1 + 1, 0, none⟩ = some (.bool false) := cells_at h4 0
    have rf : V.frozen? ⟨Z + 1 + 1, 0, none⟩ = false := frozen_of h4
    have rz := lt_of_heap h4
    have HFIN := hide hfin
    have HJ2 := hide hj2
    have HB6 := hide hB6
    have HM5 := hide hM5
    have HV5 := hide hV5
    clear hj hjz h4 hko hkf h5 hfin hj2 hB5 hB6 hM5 hC5 hV5 h5z
    go_wp2_with fail
    rw [HV5.out]
    exact leave_mark rfl HM5.out (results_one17 rfl _ _ _ rfl (Try.isAgg4 _) (cells_at HB6.out 0)) ⟨HFIN.out, .inl ⟨rfl, HJ2.out⟩⟩
  · rintro M c O' V ⟨rfl, ⟨hj, hjz⟩, h4, ⟨hko, hkf⟩, h5⟩ hM hMM
    rw [HBB.out] at hM
    have hz := lt_of_heap hMM
    have hB6 : BBox (V.putObj M (.deferred none)) (Z + 1 + 1) false := h4.of (World.putObj_heap_other (by omega))
    have hj2 := HH.out.relyx _ O _ (V.putObj M (.deferred none)) hj ⟨rfl, rfl, rfl, by simp, fun k hk hn => World.putObj_heap_other fun e => hn (.inr (.inr ⟨.inl (e.trans hM), hk⟩))⟩
      (fun k hk => ⟨.inl (.inl (HOAO.out k hk)), by have := HO.out k hk; simp; omega⟩)
    have hfin : (KO O W (V.putObj M (.deferred none)) ∧ W.heap.size ≤ (V.putObj M (.deferred none)).heap.size ∧ KF (lp + 1) W (V.putObj M (.deferred none))) := by
      have hz1 := HZZ.out
      have he : ∀ k, k < Z → (V.putObj M (.deferred none)).heap[k]? = V.heap[k]? := fun k hk => World.putObj_heap_other (by omega)
      refine ⟨fun k hk => (he k (HO.out k hk)).trans (hko k hk), by simp; omega, by simp; omega, fun k o hk ho hc => ?_⟩
      have := lt_of_heap ho
      exact (he k (by omega)).trans (hkf.2 k o hk ho hc)
    have HFIN := hide hfin
    have HJ2 := hide hj2
    have HB6 := hide hB6
    clear hj hjz h4 hko hkf h5 hfin hj2 hB6
    go_wp2_with fail
    exact leave_mark rfl hMM (results_one17 rfl _ _ _ rfl (Try.isAgg4 _) (cells_at HB6.out 0)) ⟨HFIN.out, .inr ⟨rfl, HJ2.out⟩⟩
end Go.Proofs.Ytnhgdjiljjpgmaa
