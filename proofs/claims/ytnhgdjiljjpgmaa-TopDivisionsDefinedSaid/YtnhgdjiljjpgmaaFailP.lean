/-
  The program's layer 17 (failure): the iterators parts and between.
  Conditions: sets of at most five processes.
-/
import Derived.Test.YtnhgdjiljjpgmaaSeqY
import Derived.Test.YtnhgdjiljjpgmaaFailS
import Derived.Test.YtnhgdjiljjpgmaaHeldA
namespace Go.Proofs.Ytnhgdjiljjpgmaa
open Go.RowKit
attribute [local go_sem] Oper.semAt_some

/-- A number in a block of its own. -/
def NBox (W : World) (b : Nat) (m : Int) : Prop := W.heap[b]? = some (.cells #[.int .i64 m] 3 (0, 0))
theorem NBox.ext {W W' : World} {b : Nat} {m : Int} (h : NBox W b m) (hE : Ext W W') : NBox W' b m := (hE.b.block _ (lt_of_heap h)).trans h
theorem NBox.cell {W : World} {b : Nat} {m : Int} (h : NBox W b m) : W.cell? ⟨b, 0, none⟩ = some (.int .i64 m) := by rw [cell_of_row W b 0 _ _ _ h]; rfl
theorem NBox.of {W W' : World} {b : Nat} {m : Int} (h : NBox W b m) (hb : W'.heap[b]? = W.heap[b]?) : NBox W' b m := hb.trans h
theorem subs_table : ((List.range 32).all fun set => decide ((subsL set).getD 0 0 = 0) && (List.range (subsL set).length).all fun i => decide ((subsL set).getD i 0 ≤ set) &&
    (if i + 1 < (subsL set).length then decide (bits .and .i64 ((((subsL set).getD i 0 : Nat) : Int) - ((set : Nat) : Int)) ((set : Nat) : Int) = (((subsL set).getD (i + 1) 0 : Nat) : Int)) && decide ((subsL set).getD i 0 < (subsL set).getD (i + 1) 0)
      else decide ((subsL set).getD i 0 = set))) = true := by decide +kernel
structure Subs (set n : Nat) (s : Nat → Nat) : Prop where
  pos : 0 < n
  zero : s 0 = 0
  le : ∀ i, i < n → s i ≤ set
  next : ∀ i, i + 1 < n → bits .and .i64 (((s i : Nat) : Int) - (set : Int)) (set : Int) = ((s (i + 1) : Nat) : Int) ∧ s i < s (i + 1) ∧ s (i + 1) ≤ set
  last : ∀ i, i + 1 = n → s i = set
theorem subs_pos (set : Nat) : 0 < (subsL set).length := by
  apply List.length_pos_iff.2
  intro e
  have : set ∈ subsL set := List.mem_filter.2 ⟨List.mem_range.2 (by omega), by simp⟩
  rw [e] at this; cases this
theorem subs_ok {set : Nat} (hs : set < 32) : Subs set (subsL set).length fun i => (subsL set).getD i 0 := by
  have h := subs_table
  rw [List.all_eq_true] at h
  have h := h set (List.mem_range.2 hs)
  rw [Bool.and_eq_true, List.all_eq_true] at h
  obtain ⟨h0, h⟩ := h
  have hi : ∀ i, i < (subsL set).length → _ := fun i hi => h i (List.mem_range.2 hi)
  have hle : ∀ i, i < (subsL set).length → (subsL set).getD i 0 ≤ set := fun i h1 => by
    have := hi i h1
    rw [Bool.and_eq_true] at this
    exact of_decide_eq_true this.1
  refine ⟨subs_pos set, of_decide_eq_true h0, hle, fun i h1 => ?_, fun i h1 => ?_⟩
  · have := hi i (by omega)
    rw [Bool.and_eq_true, if_pos h1, Bool.and_eq_true] at this
    exact ⟨of_decide_eq_true this.2.1, of_decide_eq_true this.2.2, hle _ h1⟩
  · have := hi i (by omega)
    rw [Bool.and_eq_true, if_neg (by omega)] at this
    exact of_decide_eq_true this.2
theorem pparts_any (set : Nat) (w : World) : Calls Try.prog 50 #[.int .i64 set] w fun e w' => e = .returned (.func (.func 74) #[] #[.pointer (some ⟨w.heap.size, 0, none⟩)]) ∧ NBox w' w.heap.size set ∧ Ext w w' := by
  go_enter Try.func50, Try.ntmps50
  go_wp2_with fail
  go_ret
  exact ⟨rfl, heap_alloc_new w _, (Ext.refl w).alloc _⟩
theorem enters_pparts1 : ∀ args w, (callFunc 74 args).run Try.prog w = .ok (.enter 74 args) w := fun _ _ => by kernel_rfl
set_option maxHeartbeats 1000000 in
/-- The subsets of a set, in ascending order. -/
theorem pparts_seq (set : Nat) (hs : set < 32) (g : Nat) :
    SeqX Try.prog 74 #[.pointer (some ⟨g, 0, none⟩)] (fun W => NBox W g set) (fun k => k = g) (fun _ => True) (subsL set).length (fun i _ x _ => x = #[.int .i64 ((subsL set).getD i 0 : Nat)]) := by
  intro lp J Jx W hD hJ hJx hY hI hO0 h0
  have HJ := hide hJ
  have HJX := hide hJx
  have HY := hide hY
  have HI := hide hI
  have H0 := hide h0
  have HS := hide (subs_ok hs)
  have hg := hO0 g rfl
  clear hD hJ hJx hY h0 hO0 hI
  generalize (subsL set).length = n at *
  generalize hsf : (fun i => (subsL set).getD i 0) = s at HS
  have hsf' : ∀ i, (subsL set).getD i 0 = s i := fun i => by rw [← hsf]
  simp only [hsf'] at HY
  clear hsf hsf'
  refine callsIn_of_wp Try.func74 rfl trivial ?_ rfl
  simp only [Try.ntmps74, List.size_toArray, List.length_cons, List.length_nil, Nat.reduceAdd, Nat.reduceSub, Array.replicate_succ, Array.replicate_zero, List.push_toArray, List.append_toArray, List.nil_append, List.cons_append]
  gi_wp2_with fail
  gi_loopw [3] (fun x wr => ∃ i : Nat, i < n ∧ s i ≤ set ∧ x = .int .i64 (s i : Nat) ∧ Hid (NBox wr g set ∧ J i (fun k => k = g) wr)) (fun x _ => set - (intOf x).toNat)
  case atStart => exact ⟨0, HS.out.pos, HS.out.le 0 HS.out.pos, by rw [HS.out.zero]; rfl, HI.out, H0.out⟩
  case round =>
    obtain ⟨i, hi, hle, rfl, HR⟩ := hrel
    obtain ⟨hb, hj⟩ := HR.out
    have c0 := hb.cell
    have z0 := lt_of_heap hb
    obtain ⟨fn, tmps, assign, body, hy, hR⟩ := HY.out i #[.int .i64 (s i : Nat)] _ wr hi rfl hj (fun k hk => by subst hk; exact z0)
    have HRR := hide hR
    have HB := hide hb
    clear hR hj hb HR
    gi_wp2_with fail
    refine ⟨rfl, HRR.out.mono ?_⟩
    rintro e W' ⟨⟨hko, hsz⟩, (⟨rfl, hJ'⟩ | ⟨rfl, hJx'⟩)⟩
    · have HB' := hide (HB.out.of (hko g rfl))
      have HJ' := hide hJ'
      have c1 := HB'.out.cell
      have z1 := lt_of_heap HB'.out
      clear c0 z0 hy hko hsz hJ' HRR
      by_cases hlast : i + 1 = n
      · have hd : ((s i : Int) == (set : Int)) = true := by rw [HS.out.last i hlast]; simp
        have hd2 : (s i == set) = true := by rw [HS.out.last i hlast]; simp
        have HL := hide hlast
        clear hlast
        gi_wp2_with fail
        have := HJ'.out
        rw [HL.out] at this
        exact bodyPost_ret (results_none rfl _ _ _) rfl ⟨⟨_, rfl⟩, _, .inl this⟩
      · obtain ⟨n1, n2, n3⟩ := HS.out.next i (by omega)
        have hd : ((s i : Int) == (set : Int)) = false := by rw [beq_eq_false_iff_ne]; omega
        have hd2 : (s i == set) = false := by rw [beq_eq_false_iff_ne]; omega
        have HN1 := hide n1
        have hlt : i + 1 < n := by omega
        generalize hs1 : s (i + 1) = s1 at n1 n2 n3 HN1
        have HS1 := hide hs1
        clear hlast hs1
        gi_wp2_with fail
        exact ⟨⟨i + 1, hlt, by rw [HS1.out]; exact n3, by rw [HS1.out], HB'.out, HJ'.out⟩, by simp [intOf]; omega⟩
    · clear c0 z0 hy hko hsz HRR
      gi_wp2_with fail
      exact bodyPost_ret (results_none rfl _ _ _) rfl ⟨⟨_, rfl⟩, _, .inr hJx'⟩
theorem pbetween_any (low high : Nat) (w : World) : Calls Try.prog 21 #[.int .i64 low, .int .i64 high] w fun e w' =>
    e = .returned (.func (.func 49) #[] #[.pointer (some ⟨w.heap.size + 1, 0, none⟩), .pointer (some ⟨w.heap.size, 0, none⟩)]) ∧ NBox w' w.heap.size low ∧ NBox w' (w.heap.size + 1) high ∧ Ext w w' := by
  go_enter Try.func21, Try.ntmps21
  go_wp2_with fail
  go_ret
  refine ⟨rfl, ?_, ?_, ((Ext.refl w).alloc _).alloc _⟩
  · exact (Below.heap_alloc _ _ _ (by simp)).trans (heap_alloc_new w _)
  · have := heap_alloc_new (w.alloc (.cells #[.int .i64 low] 3)) (.cells #[.int .i64 high] 3)
    rwa [World.size_alloc] at this
theorem enters_pbetween1 : ∀ args w, (callFunc 49 args).run Try.prog w = .ok (.enter 49 args) w := fun _ _ => by kernel_rfl
theorem andNot_bits : ((List.range 32).all fun a => (List.range 32).all fun b => decide (bits .andNot .i64 ((a : Nat) : Int) ((b : Nat) : Int) = ((andNot a b : Nat) : Int)) && decide (bits .or .i64 ((a : Nat) : Int) ((b : Nat) : Int) = ((a ||| b : Nat) : Int))) = true := by decide +kernel
theorem andNot_run {a b : Nat} (ha : a < 32) (hb : b < 32) : bits .andNot .i64 (a : Int) (b : Int) = ((andNot a b : Nat) : Int) := by
  have h := andNot_bits
  rw [List.all_eq_true] at h
  have h := h a (List.mem_range.2 ha)
  rw [List.all_eq_true] at h
  have h := h b (List.mem_range.2 hb)
  rw [Bool.and_eq_true] at h
  exact of_decide_eq_true h.1
theorem or_run {a b : Nat} (ha : a < 32) (hb : b < 32) : bits .or .i64 (a : Int) (b : Int) = ((a ||| b : Nat) : Int) := by
  have h := andNot_bits
  rw [List.all_eq_true] at h
  have h := h a (List.mem_range.2 ha)
  rw [List.all_eq_true] at h
  have h := h b (List.mem_range.2 hb)
  rw [Bool.and_eq_true] at h
  exact of_decide_eq_true h.2
def FBox (W : World) (b lp : Nat) : Prop := W.heap[b]? = some (.cells #[.func (.yield lp) #[] #[]] 57 (0, 0))
theorem FBox.ext {W W' : World} {b lp : Nat} (h : FBox W b lp) (hE : Ext W W') : FBox W' b lp := (hE.b.block _ (lt_of_heap h)).trans h
theorem FBox.of {W W' : World} {b lp : Nat} (h : FBox W b lp) (hb : W'.heap[b]? = W.heap[b]?) : FBox W' b lp := hb.trans h
theorem FBox.cell {W : World} {b lp : Nat} (h : FBox W b lp) : W.cell? ⟨b, 0, none⟩ = some (.func (.yield lp) #[] #[]) := by rw [cell_of_row W b 0 _ _ _ h]; rfl
set_option maxHeartbeats 1000000 in
/-- The sets between two sets. -/
theorem pbetween_seq (low high : Nat) (hl : low < 32) (hh : high < 32) (gh gl : Nat) :
    SeqY Try.prog 49 #[.pointer (some ⟨gh, 0, none⟩), .pointer (some ⟨gl, 0, none⟩)] (fun W => NBox W gl low ∧ NBox W gh high) (fun k => k = gl ∨ k = gh) (fun _ => True) (betwL low high).length (fun i _ x _ => x = #[.int .i64 ((betwL low high).getD i 0 : Nat)]) := by
  intro lp J Jx W hD hJ hJx hY hlp hI hO0 h0
  have HJ := hide hJ
  have HJX := hide hJx
  have HY := hide hY
  have HI := hide hI
  have H0 := hide h0
  have HO0 := hide hO0
  have hsd : andNot high low < 32 := andNot_lt hh hl
  have HSEQ := hide (fun g => (pparts_seq (andNot high low) hsd g).toY)
  have hbn : (betwL low high).length = (subsL (andNot high low)).length := List.length_map _
  have HBV : Hid (∀ i, i < (subsL (andNot high low)).length → (betwL low high).getD i 0 = low ||| (subsL (andNot high low)).getD i 0) := fun i hi => by
    unfold betwL
    rw [List.getD_eq_getElem?_getD, List.getD_eq_getElem?_getD, List.getElem?_map, List.getElem?_eq_getElem hi]; rfl
  have hl32 := hl
  have HSL : Hid (∀ i, i < (subsL (andNot high low)).length → (subsL (andNot high low)).getD i 0 < 32) := fun i hi => Nat.lt_of_le_of_lt ((subs_ok hsd).le i hi) hsd
  rw [hbn] at HY ⊢
  clear hD hJ hJx hY h0 hI hO0 hbn
  have c0 := HI.out.1.cell
  have c1 := HI.out.2.cell
  have z0 := lt_of_heap HI.out.1
  have z1 := lt_of_heap HI.out.2
  have hrun := andNot_run hh hl
  refine (callsIn_wide (n := 0)).2 ?_
  refine calls_of_wp_m Try.func49 rfl ?_
  simp only [Try.ntmps49, List.size_toArray, List.length_cons, List.length_nil, Nat.reduceAdd, Nat.reduceSub, Array.replicate_succ, Array.replicate_zero, List.push_toArray, List.append_toArray, List.nil_append, List.cons_append]
  go_wp2_with fail
  obtain ⟨W1, hW1⟩ : ∃ W1, W.alloc (.cells #[.func (.yield lp) #[] #[]] 57) = W1 := ⟨_, rfl⟩
  have HE1 : Hid (Ext W W1) := by show Ext _ _; rw [← hW1]; exact (Ext.refl _).alloc _
  have HF1 : Hid (FBox W1 W.heap.size lp) := by show _ = _; rw [← hW1]; exact heap_alloc_new W _
  rw [hW1]
  refine (pparts_any (andNot high low) W1).mono ?_
  rintro e W2 ⟨rfl, hb2, hE2⟩
  have HE2 := hide (HE1.out.trans hE2)
  have HF2 := hide (HF1.out.ext hE2)
  have HB2 := hide hb2
  have HZ : Hid (W.heap.size < W1.heap.size) := lt_of_heap HF1.out
  clear hb2 hE2 hW1 c0 c1 z0 z1 hrun
  go_wp2_with fail
  obtain ⟨gy, hgy⟩ : ∃ gy, W.heap.size = gy := ⟨_, rfl⟩
  obtain ⟨gp, hgp⟩ : ∃ gp, W1.heap.size = gp := ⟨_, rfl⟩
  obtain ⟨B, hB⟩ : ∃ B, W2.heap.size = B := ⟨_, rfl⟩
  obtain ⟨OB, hOB⟩ : ∃ OB : Nat → Prop, OB = fun k => k = gl ∨ k = gh ∨ k = gy := ⟨_, rfl⟩
  have hz1 : gy < gp := by have := HZ.out; omega
  have hz2 : gp < B := by have := lt_of_heap HB2.out; omega
  have hOBz : ∀ k, OB k → k < gp := fun k hk => by
    rw [hOB] at hk
    have h1 := HO0.out gl (.inl rfl)
    have h2 := HO0.out gh (.inr rfl)
    rcases hk with rfl | rfl | rfl <;> omega
  have HOBZ := hide hOBz
  have HOB := hide hOB
  have HBX : Hid (NBox W2 gl low ∧ NBox W2 gh high ∧ FBox W2 gy lp) := ⟨HI.out.1.ext HE2.out, HI.out.2.ext HE2.out, hgy ▸ HF2.out⟩
  have HJ2 : Hid (J 0 (fun k => OB k ∨ k = gp ∨ ((k = B ∨ k = B + 1) ∧ k < W2.heap.size)) W2) := by
    refine HJ.out 0 _ _ _ _ H0.out (Off.of_ext HE2.out) fun k hk => ?_
    have hW2 := HE2.out.size
    rcases hk with hk | rfl | ⟨hk, hlt⟩
    · refine ⟨?_, by have := hOBz k hk; omega⟩
      rw [hOB] at hk
      rcases hk with rfl | rfl | rfl
      · exact .inl (.inl rfl)
      · exact .inl (.inr rfl)
      · exact .inr (by omega)
    · exact ⟨.inr (by omega), by omega⟩
    · exfalso; omega
  rw [hgy, hgp]
  have HGP := hide hgp
  have HBB := hide hB
  have hlpB : lp < gy := by omega
  clear hOBz hOB HF2 HZ H0 HI HO0
  refine wp_rangeY (n := (subsL (andNot high low)).length) rfl enters_pparts1 (HSEQ.out gp) (fun i O x V hi hX => by rw [hX]; rfl)
    (fun i O V => (J i (fun k => OB k ∨ O k ∨ ((k = B ∨ k = B + 1) ∧ k < V.heap.size)) V ∧ ∀ k, OB k → k < V.heap.size) ∧ (NBox V gl low ∧ NBox V gh high ∧ FBox V gy lp) ∧ ∀ k, OB k → ¬ O k)
    (fun c O V => c = .ret ∧ Jx (fun k => OB k ∨ O k ∨ ((k = B ∨ k = B + 1) ∧ k < V.heap.size)) V ∧ ∀ k, OB k → k < V.heap.size) ?_ ?_ ?_ ?_ ?_ ?_ ?_ ?_ ?_
  · exact fun _ _ _ _ => trivial
  · rintro i O O' V V' ⟨h1, ⟨h2, h3, h4⟩, h5⟩ hoff hG
    rw [HBB.out] at hoff
    have keep : ∀ k, OB k → V'.heap[k]? = V.heap[k]? := fun k hk => hoff.block k (h1.2 k hk) fun h => h.elim (h5 k hk) fun h => by have := HOBZ.out k hk; omega
    refine ⟨rely_in (HJ.out i) OB (fun k => k = B ∨ k = B + 1) O O' V V' h1 hoff hG, ⟨h2.of (keep _ (by rw [HOB.out]; exact .inl rfl)), h3.of (keep _ (by rw [HOB.out]; exact .inr (.inl rfl))), h4.of (keep _ (by rw [HOB.out]; exact .inr (.inr rfl)))⟩, fun k hk hO => ?_⟩
    rcases (hG k hO).1 with h | h
    · exact h5 k hk h
    · have := h1.2 k hk; omega
  · rintro c O O' V V' ⟨hc, h1⟩ hoff hG
    rw [HBB.out] at hoff
    exact ⟨hc, rely_in HJX.out OB (fun k => k = B ∨ k = B + 1) O O' V V' h1 hoff hG⟩
  · exact fun V hE => HGP.out ▸ HB2.out.ext hE
  · rintro k rfl; omega
  · exact ⟨⟨HJ2.out, fun k hk => by have := HOBZ.out k hk; omega⟩, HBX.out, fun k hk h => by have := HOBZ.out k hk; omega⟩
  · rintro l i x O V hi rfl ⟨⟨hj, hjz⟩, ⟨h2, h3, h4⟩, h5⟩ hOV hl hlV
    rw [HBB.out] at hl ⊢
    obtain ⟨OC, hOC⟩ : ∃ OC : Nat → Prop, OC = fun k => OB k ∨ O k ∨ ((k = B ∨ k = B + 1) ∧ k < V.heap.size) := ⟨_, rfl⟩
    rw [← hOC] at hj
    have hs := HSL.out i hi
    have hor := or_run hl32 hs
    have hbv := HBV.out i hi
    generalize (subsL (andNot high low)).getD i 0 = si at hs hor hbv
    gi_wp2_with fail
    refine ⟨⟨KF.refl _ _, fun _ _ => rfl⟩, fun V2 hC hrec => ?_⟩
    have keep : ∀ k, OB k → V2.heap[k]? = V.heap[k]? := fun k hk => hC.block k (hjz k hk) fun e => by have := HOBZ.out k hk; omega
    have hOCz : ∀ k, OC k → k < V2.heap.size := fun k hk => by
      have := hC.size
      rw [hOC] at hk
      rcases hk with hk | hk | ⟨_, hk⟩
      · have := hjz k hk; omega
      · have := hOV k hk; omega
      · omega
    have hj2 := HJ.out i OC OC V V2 hj ⟨hC.os, hC.tape, hC.output, hC.size, fun k hk hn => hC.block k hk fun e => hn (by rw [hOC, e]; exact .inr (.inr ⟨.inr hl, hlV⟩))⟩ (fun k hk => ⟨.inl hk, hOCz k hk⟩)
    have g2 := h2.of (keep _ (by rw [HOB.out]; exact .inl rfl))
    have g4 := h4.of (keep _ (by rw [HOB.out]; exact .inr (.inr rfl)))
    have HG : Hid (NBox V2 gl low ∧ NBox V2 gh high ∧ FBox V2 gy lp) := ⟨g2, h3.of (keep _ (by rw [HOB.out]; exact .inr (.inl rfl))), g4⟩
    have c2 := g2.cell
    have c4 := g4.cell
    have z2 := lt_of_heap g2
    have z4 := lt_of_heap g4
    obtain ⟨fn, tmps, assign, body, hy, hR⟩ := HY.out i #[.int .i64 (low ||| si : Nat)] OC V2 hi (by rw [hbv]) hj2 hOCz
    have HRR := hide hR
    have HOC := hide hOC
    have HCZ := hide hOCz
    have HVZ : Hid (V.heap.size ≤ V2.heap.size) := hC.size
    have HH5 := hide h5
    have HOV := hide hOV
    clear hR hj hj2 hOC hOCz h2 h3 h4 g2 g4 keep hC h5 hbv hjz hOV
    gi_wp2_with fail
    refine ⟨rfl, HRR.out.mono ?_⟩
    rintro e V3 ⟨⟨hko, hsz, hkf⟩, hres⟩
    have hKFO : KFO B O V2 V3 := ⟨hkf.up (by omega), fun k hk => hko k (by rw [HOC.out]; exact .inr (.inl hk))⟩
    have koB : ∀ k, OB k → V3.heap[k]? = V2.heap[k]? := fun k hk => hko k (by rw [HOC.out]; exact .inl hk)
    obtain ⟨g2, g3, g4⟩ := HG.out
    have HBX3 : Hid (NBox V3 gl low ∧ NBox V3 gh high ∧ FBox V3 gy lp) := ⟨g2.of (koB _ (by rw [HOB.out]; exact .inl rfl)), g3.of (koB _ (by rw [HOB.out]; exact .inr (.inl rfl))), g4.of (koB _ (by rw [HOB.out]; exact .inr (.inr rfl)))⟩
    have hgrow : Grow OC (fun k => OB k ∨ O k ∨ ((k = B ∨ k = B + 1) ∧ k < V3.heap.size)) V3 V3 := fun k hk => by
      have hv := HVZ.out
      rcases hk with hk | hk | ⟨hk, h3⟩
      · have h1 : OC k := by rw [HOC.out]; exact .inl hk
        exact ⟨.inl h1, by have := HCZ.out k h1; omega⟩
      · have h1 : OC k := by rw [HOC.out]; exact .inr (.inl hk)
        exact ⟨.inl h1, by have := HCZ.out k h1; omega⟩
      · exact ⟨.inl (by rw [HOC.out]; exact .inr (.inr ⟨hk, by rcases hk with rfl | rfl <;> omega⟩)), h3⟩
    have hbd : ∀ k, OB k → k < V3.heap.size := fun k hk => by have := HOBZ.out k hk; have := HVZ.out; omega
    have HKFO := hide hKFO
    have HBD := hide hbd
    have HGW := hide hgrow
    clear hko hkf hKFO koB g2 g3 g4 hgrow hbd c2 c4 z2 z4 hy HRR HG
    rcases hres with ⟨rfl, hJ'⟩ | ⟨rfl, hJx'⟩
    · have HJ' := hide (HJ.out _ _ _ _ _ hJ' (Off.refl _ _) HGW.out)
      clear hJ'
      gi_wp2_with fail
      exact ⟨HKFO.out, ⟨HJ'.out, HBD.out⟩, HBX3.out, HH5.out⟩
    · have HJ' := hide (HJX.out _ _ _ _ hJx' (Off.refl _ _) HGW.out)
      clear hJx'
      gi_wp2_with fail
      exact ⟨HKFO.out, rfl, HJ'.out, HBD.out⟩
  · rintro M O V ⟨⟨hj, hjz⟩, -, -⟩ hM hMM
    rw [HBB.out] at hM
    subst hM
    have hz := lt_of_heap hMM
    have hj2 := HJ.out _ _ (fun _ => False) _ (V.putObj M (.deferred none)) hj ⟨rfl, rfl, rfl, by simp, fun k _ hn => World.putObj_heap_other fun e => hn (.inr (.inr ⟨.inl e, by omega⟩))⟩ (fun k hk => hk.elim)
    go_wp2_with fail
    exact leave_mark rfl hMM (results_none rfl _ _ _) ⟨⟨_, rfl⟩, _, .inl hj2⟩
  · rintro M c O V ⟨rfl, hj, hjz⟩ hM hMM
    rw [HBB.out] at hM
    subst hM
    have hz := lt_of_heap hMM
    have hj2 := HJX.out _ (fun _ => False) _ (V.putObj M (.deferred none)) hj ⟨rfl, rfl, rfl, by simp, fun k _ hn => World.putObj_heap_other fun e => hn (.inr (.inr ⟨.inl e, by omega⟩))⟩ (fun k hk => hk.elim)
    go_wp2_with fail
    exact leave_mark rfl hMM (results_none rfl _ _ _) ⟨⟨_, rfl⟩, _, .inr hj2⟩
end Go.Proofs.Ytnhgdjiljjpgmaa
