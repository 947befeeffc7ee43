/-
  The program's layer 17 (failure): model.steps as an iterator.
  Conditions: as each theorem states.
-/
import Derived.Test.YtnhgdjiljjpgmaaFailG
import Derived.Test.YtnhgdjiljjpgmaaFailI
namespace Go.Proofs.Ytnhgdjiljjpgmaa
open Go.RowKit
attribute [local go_sem] Oper.semAt_some

theorem wpIn_region_ha {P : Program} {l id : Nat} {Q : Exit → Act → World → Prop} {a : Act} {w : World} {L : List Oper} (S : World → Prop) (hm : P.follows .mixedOrders = true) (hd : noDefer L = true)
    (h : ∀ W, W = w.drew → wpAnyT P .any L.toArray S (fun _ => false) (fun a w => Q .normal a w) L.toArray.size (Array.replicate L.toArray.size false) a W) : (Code.region id L.toArray true).wpIn (Fence.wide.inRound l) 0 P Q a w :=
  wpIn_region_any hm (wpAnyIn_of_plain hd _ _ _ _ (wpAny_heldAll (h _ rfl)))
/-- What an iterator's loop over another one keeps. -/
theorem rely_own {J : (Nat → Prop) → World → Prop} (hJ : Rely J) {OB : Nat → Prop} {B : Nat} {S : World → Prop} (hB : ∀ k, OB k → k < B) (hS : ∀ V V', S V → (∀ k, OB k → V'.heap[k]? = V.heap[k]?) → S V') :
    RelyL (fun k => k = B ∨ k = B + 1) fun O' V => (J (fun k => OB k ∨ O' k ∨ ((k = B ∨ k = B + 1) ∧ k < V.heap.size)) V ∧ ∀ k, OB k → k < V.heap.size) ∧ S V ∧ ∀ k, OB k → ¬ O' k := by
  rintro O1 O2 V V' ⟨h1, h2, h5⟩ hoff hG
  have keep : ∀ k, OB k → V'.heap[k]? = V.heap[k]? := fun k hk => hoff.block k (h1.2 k hk) fun h => h.elim (fun h => h5 k hk h) fun h => by have := hB k hk; omega
  refine ⟨rely_in hJ OB (fun k => k = B ∨ k = B + 1) O1 O2 V V' h1 hoff hG, hS V V' h2 keep, fun k hk hO => ?_⟩
  rcases (hG k hO).1 with h | h
  · exact h5 k hk h
  · have := h1.2 k hk; omega
/-- What a loop in the round of such a loop keeps. -/
theorem rely_inr {J : (Nat → Prop) → World → Prop} (hJ : Rely J) {OA O' : Nat → Prop} {B B2 Z2 : Nat} {V2 : World} {S : World → Prop} (hA : ∀ k, OA k → k < B2) (hOA : ∀ k, O' k → OA k) (hS : ∀ V V', S V → (∀ k, OA k → V'.heap[k]? = V.heap[k]?) → S V') (hZ : V2.heap.size = Z2) (hZB : Z2 ≤ B2) :
    RelyL (fun k => k = B2) fun O2 V => (J (fun k => OA k ∨ O2 k ∨ (k = B2 ∧ k < V.heap.size)) V ∧ ∀ k, OA k → k < V.heap.size) ∧ S V ∧ KFO B O' V2 V ∧ ∀ k, O2 k → Z2 ≤ k ∧ ¬ OA k := by
  rintro O1 O2 V V' ⟨h1, h2, h3, h5⟩ hoff hG
  have keep : ∀ k, OA k → V'.heap[k]? = V.heap[k]? := fun k hk => hoff.block k (h1.2 k hk) fun h => h.elim (fun h => (h5 k h).2 hk) fun h => by have := hA k hk; omega
  refine ⟨rely_in hJ OA (fun k => k = B2) O1 O2 V V' h1 hoff hG, hS V V' h2 keep, ⟨⟨Nat.le_trans h3.f.1 hoff.size, fun k o hk ho hc => ?_⟩, fun k hk => (keep k (hOA k hk)).trans (h3.o k hk)⟩, fun k hk => ?_⟩
  · have hV := h3.f.2 k o hk ho hc
    have hlt := lt_of_heap ho
    refine (hoff.block k (lt_of_heap hV) fun h => ?_).trans hV
    rcases h with h | h
    · have := (h5 k h).1; omega
    · omega
  · rcases (hG k hk).1 with h | h
    · exact h5 k h
    · exact ⟨by have := h3.f.1; omega, fun ha => by have := h1.2 k ha; omega⟩
def MBox (V : World) (bm n f rid : Nat) (rlb : Array Value) (fid : Nat) (flb : Array Value) : Prop := V.heap[bm]? = some (.cells #[.int .i64 n, .int .i64 f, .func (.func rid) #[] rlb, .func (.func fid) #[] flb] 54 (0, 0))
theorem MBox.of {V V' : World} {bm n f rid : Nat} {rlb : Array Value} {fid : Nat} {flb : Array Value} (h : MBox V bm n f rid rlb fid flb) (hb : V'.heap[bm]? = V.heap[bm]?) : MBox V' bm n f rid rlb fid flb := hb.trans h
theorem msteps_any (n f b rid fid : Nat) (rlb flb : Array Value) (w : World) : Calls Try.prog 48 #[mdlV n f rid rlb fid flb, .int .i64 b] w fun e w' =>
    e = .returned (.func (.func 71) #[] #[.pointer (some ⟨w.heap.size, 0, none⟩), .pointer (some ⟨w.heap.size + 1, 0, none⟩)]) ∧
      MBox w' w.heap.size n f rid rlb fid flb ∧ NBox w' (w.heap.size + 1) b ∧ Ext w w' := by
  go_enter Try.func48, Try.ntmps48
  go_wp2_with fail
  go_ret
  refine ⟨rfl, ?_, ?_, ((Ext.refl w).alloc _).alloc _⟩
  · show _ = _
    rw [Below.heap_alloc _ _ _ (by simp)]
    exact heap_alloc_new w _
  · show _ = _
    have := heap_alloc_new (w.alloc (.cells #[.int .i64 n, .int .i64 f, .func (.func rid) #[] rlb, .func (.func fid) #[] flb] 54)) (.cells #[.int .i64 b] 3)
    rwa [World.size_alloc] at this
theorem enters_msteps1 : ∀ args w, (callFunc 71 args).run Try.prog w = .ok (.enter 71 args) w := fun _ _ => by kernel_rfl
def stpV (s : Stp17) : Value := .agg #[.int .i64 s.1.g.n, .int .i64 s.1.g.h0, .int .i64 s.1.g.h1, .int .i64 s.1.g.h2, .int .i64 s.1.g.h3, .int .i64 s.1.g.h4, .int .i64 s.1.f, .int .i64 (s.2 : Nat)]
/-- The steps that some more faulty processes give. -/
def moreM (m : Mdl) (b more : Nat) : List Stp17 := if m.f < sizeN (b ||| more) then [] else (graphsM m b (b ||| more)).map fun g => (⟨g, (b ||| more : Nat)⟩, b ||| more)
theorem sub_le {set x : Nat} (h : x ∈ subsL set) : x ≤ set := by
  have := List.mem_range.1 (List.mem_filter.1 h).1
  omega
theorem andNot_le (a b : Nat) : andNot a b ≤ a := Nat.sub_le _ _
theorem full_lt (n : Nat) : fullN n < 2 ^ n := by
  have : 0 < 2 ^ n := Nat.two_pow_pos n
  unfold fullN; omega
theorem more_lt {n b x : Nat} (hb : b < 2 ^ n) (hx : x ∈ subsL (andNot (fullN n) b)) : b ||| x < 2 ^ n :=
  Nat.or_lt_two_pow hb (Nat.lt_of_le_of_lt (Nat.le_trans (sub_le hx) (andNot_le _ _)) (full_lt n))
set_option maxRecDepth 16000 in
set_option maxHeartbeats 4000000 in
/-- The steps of a state. -/
theorem msteps_seq {m : Mdl} {b rid fid : Nat} {rlb flb : Array Value} {DD : World → Prop} (hn : 1 ≤ m.n) (hn5 : m.n ≤ 5) (hb : b < 2 ^ m.n)
    (H : ∀ more ∈ subsL (andNot (fullN m.n) b), MAsk m.n m.f b (b ||| more) rid fid rlb flb (fun p => m.rows p b (b ||| more)) (fun g => m.fits g b (b ||| more)) DD) (sm sf : Nat) :
    SeqY Try.prog 71 #[.pointer (some ⟨sm, 0, none⟩), .pointer (some ⟨sf, 0, none⟩)] (fun W => MBox W sm m.n m.f rid rlb fid flb ∧ NBox W sf b) (fun k => k = sm ∨ k = sf) DD
      (stepsM m b).length (fun i _ x _ => ∃ s, (stepsM m b)[i]? = some s ∧ x = #[stpV s]) := by
  intro lp J Jx W hD hJ hJx hY hlp hI hO0 h0
  have HD := hide hD
  have HJ := hide hJ
  have HJX := hide hJx
  have HY := hide hY
  have HI := hide hI
  have H0 := hide h0
  have HO0 := hide hO0
  have HH := hide H
  have hb32 : b < 32 := Nat.lt_of_lt_of_le hb (Nat.pow_le_pow_right (n := 2) (by omega) hn5)
  have hf32 : fullN m.n < 32 := Nat.lt_of_lt_of_le (full_lt m.n) (Nat.pow_le_pow_right (n := 2) (by omega) hn5)
  have hsd : andNot (fullN m.n) b < 32 := Nat.lt_of_le_of_lt (andNot_le _ _) hf32
  have hrun := andNot_run hf32 hb32
  have HLP := hide hlp
  have hmW : MBox W sm m.n m.f rid rlb fid flb := hI.1
  have c0 : W.cell? ⟨sm, 0, none⟩ = some (.int .i64 m.n) := cells_at hmW 0
  have c1 := hI.2.cell
  have z0 := lt_of_heap hmW
  have z1 := lt_of_heap hI.2
  clear hD hJ hJx hY h0 hI hO0 H hmW hlp
  refine (callsIn_wide (n := 0)).2 ?_
  refine calls_of_wp_m Try.func71 rfl ?_
  simp only [Try.ntmps71, List.size_toArray, List.length_cons, List.length_nil, Nat.reduceAdd, Nat.reduceSub, Array.replicate_succ, Array.replicate_zero, List.push_toArray, List.append_toArray, List.nil_append, List.cons_append]
  go_wp2_with fail
  obtain ⟨W1, hW1⟩ : ∃ W1, W.alloc (.cells #[.func (.yield lp) #[] #[]] 66) = W1 := ⟨_, rfl⟩
  have HE1 : Hid (Ext W W1) := by show Ext _ _; rw [← hW1]; exact (Ext.refl _).alloc _
  have HF1 : Hid (W1.heap[W.heap.size]? = some (.cells #[.func (.yield lp) #[] #[]] 66 (0, 0))) := by show _ = _; rw [← hW1]; exact heap_alloc_new W _
  rw [hW1]
  clear hW1 c0 c1 z0 z1
  refine wp_region_heldAll (fun V => Ext W1 V) (by kernel_rfl) ?_
  intro Wd hWd
  have hR : Ext W1 Wd := by rw [hWd]; exact (Ext.refl W1).drew
  clear hWd
  have HM : Hid (∀ V, Ext W1 V → MBox V sm m.n m.f rid rlb fid flb ∧ NBox V sf b) := fun V hV => ⟨((HE1.out.trans hV).b.block _ (lt_of_heap HI.out.1)).trans HI.out.1, HI.out.2.ext (HE1.out.trans hV)⟩
  refine wpAnyT_take (i := 0) (.pointer (some ⟨sm, 0, none⟩)) rfl (by kernel_rfl) (by kernel_rfl) (by kernel_rfl) (by simp [Region.wanted]) (fun V hV => by go_simp) hR ?_
  try simp only [Act.put, List.getElem_toArray, List.getElem_cons_zero, List.setIfInBounds_toArray, List.set_cons_zero, List.set_cons_succ]
  refine wpAnyT_take (i := 1) (.int .i64 m.n) rfl (by kernel_rfl) (by kernel_rfl) (by kernel_rfl) (by simp [Region.wanted]) (fun V hV => by
    have x0 : V.cell? ⟨sm, 0, none⟩ = some (.int .i64 m.n) := cells_at (HM.out V hV).1 0
    have xz := lt_of_heap (HM.out V hV).1
    go_simp) hR ?_
  try simp only [Act.put, List.getElem_toArray, List.getElem_cons_zero, List.getElem_cons_succ, List.setIfInBounds_toArray, List.set_cons_zero, List.set_cons_succ]
  refine wpAnyT_take (i := 3) (.int .i64 b) rfl (by kernel_rfl) (by kernel_rfl) (by kernel_rfl) (by simp [Region.wanted]) (fun V hV => by
    have x0 := (HM.out V hV).2.cell
    have xz := lt_of_heap (HM.out V hV).2
    go_simp) hR ?_
  try simp only [Act.put, List.getElem_toArray, List.getElem_cons_zero, List.getElem_cons_succ, List.setIfInBounds_toArray, List.set_cons_zero, List.set_cons_succ]
  refine wpAnyT_one (i := 2) rfl (by kernel_rfl) (fun K hK => ?_)
  go_wp2_with fail
  refine (pfull_any m.n hn5 Wd).mono ?_
  rintro e w2 ⟨rfl, rfl⟩
  go_wp2_with fail
  refine ⟨rfl, hK _ _ hR ?_⟩
  clear hK K
  try simp only [Act.put, List.getElem_toArray, List.getElem_cons_zero, List.getElem_cons_succ, List.setIfInBounds_toArray, List.set_cons_zero, List.set_cons_succ]
  refine wpAnyT_take (i := 4) (.int .i64 (andNot (fullN m.n) b : Nat)) rfl (by kernel_rfl) (by kernel_rfl) (by kernel_rfl) (by simp [Region.wanted]) (fun V hV => by go_simp) hR ?_
  try simp only [Act.put, List.getElem_toArray, List.getElem_cons_zero, List.getElem_cons_succ, List.setIfInBounds_toArray, List.set_cons_zero, List.set_cons_succ]
  refine wpAnyT_one (i := 5) rfl (by kernel_rfl) (fun K hK => ?_)
  go_wp2_with fail
  refine (pparts_any (andNot (fullN m.n) b) w2).mono ?_
  rintro e w3 ⟨rfl, hb3, hE3⟩
  go_wp2_with fail
  refine ⟨rfl, hK _ _ (hR.trans hE3) ?_⟩
  clear hK K
  try simp only [Act.put, List.getElem_toArray, List.getElem_cons_zero, List.getElem_cons_succ, List.setIfInBounds_toArray, List.set_cons_zero, List.set_cons_succ]
  refine wpAnyT_done (by kernel_rfl) ?_ _
  have HE2 := hide (HE1.out.trans (hR.trans hE3))
  have HF2 : Hid (w3.heap[W.heap.size]? = some (.cells #[.func (.yield lp) #[] #[]] 66 (0, 0))) := ((hR.trans hE3).b.block _ (lt_of_heap HF1.out)).trans HF1.out
  have HB2 := hide hb3
  have HZ : Hid (W.heap.size < w2.heap.size) := Nat.lt_of_lt_of_le (lt_of_heap HF1.out) hR.size
  have HM2 := hide (HM.out w3 (hR.trans hE3))
  clear hb3 hR hE3
  go_wp2_with fail
  obtain ⟨sy, hsy⟩ : ∃ sy, W.heap.size = sy := ⟨_, rfl⟩
  obtain ⟨gp, hgp⟩ : ∃ gp, w2.heap.size = gp := ⟨_, rfl⟩
  obtain ⟨B, hB⟩ : ∃ B, w3.heap.size = B := ⟨_, rfl⟩
  obtain ⟨OB, hOB⟩ : ∃ OB : Nat → Prop, OB = fun k => k = sm ∨ k = sf ∨ k = sy := ⟨_, rfl⟩
  obtain ⟨S, hS⟩ : ∃ S : World → Prop, S = fun V => MBox V sm m.n m.f rid rlb fid flb ∧ NBox V sf b ∧ V.heap[sy]? = some (.cells #[.func (.yield lp) #[] #[]] 66 (0, 0)) := ⟨_, rfl⟩
  obtain ⟨L, hL⟩ : ∃ L, subsL (andNot (fullN m.n) b) = L := ⟨_, rfl⟩
  have hz1 : sy < gp := by have := HZ.out; omega
  have hz2 : gp < B := by have := lt_of_heap HB2.out; omega
  have hOBz : ∀ k, OB k → k < gp := fun k hk => by
    rw [hOB] at hk
    have h1 := HO0.out sm (.inl rfl)
    have h2 := HO0.out sf (.inr rfl)
    rcases hk with rfl | rfl | rfl <;> omega
  have HOBZ := hide hOBz
  have HOBO : Hid (OB sm ∧ OB sf ∧ OB sy) := by rw [hOB]; exact ⟨.inl rfl, .inr (.inl rfl), .inr (.inr rfl)⟩
  have HS2 : Hid (S w3) := by rw [hS]; exact ⟨HM2.out.1, HM2.out.2, hsy ▸ HF2.out⟩
  have HSK : Hid (∀ V V', S V → (∀ k, OB k → V'.heap[k]? = V.heap[k]?) → S V') := by
    rw [hS]
    exact fun V V' h hk => ⟨h.1.of (hk _ HOBO.out.1), h.2.1.of (hk _ HOBO.out.2.1), (hk _ HOBO.out.2.2).trans h.2.2⟩
  have HSS : Hid (∀ V, S V → MBox V sm m.n m.f rid rlb fid flb ∧ NBox V sf b ∧ V.heap[sy]? = some (.cells #[.func (.yield lp) #[] #[]] 66 (0, 0))) := by
    rw [hS]
    exact fun V h => h
  have HJ2 : Hid (J 0 (fun k => OB k ∨ k = gp ∨ ((k = B ∨ k = B + 1) ∧ k < w3.heap.size)) w3) := by
    refine HJ.out 0 _ _ _ _ H0.out (Off.of_ext HE2.out) fun k hk => ?_
    have hW2 := HE2.out.size
    rcases hk with hk | rfl | ⟨hk, hlt⟩
    · refine ⟨?_, by have := hOBz k hk; omega⟩
      rw [hOB] at hk
      rcases hk with rfl | rfl | rfl
      · exact .inl (.inl rfl)
      · exact .inl (.inr rfl)
      · exact .inr (by omega)
    · exact ⟨.inr (by omega), by omega⟩
    · exfalso; omega
  have HLL := hide hL
  have HSB : Hid (∀ i x, L[i]? = some x → x < 32 ∧ b ||| x < 2 ^ m.n ∧ MAsk m.n m.f b (b ||| x) rid fid rlb flb (fun p => m.rows p b (b ||| x)) (fun g => m.fits g b (b ||| x)) DD) := fun i x hx => by
    have hm : x ∈ subsL (andNot (fullN m.n) b) := by rw [hL]; exact List.mem_of_getElem? hx
    exact ⟨Nat.lt_of_le_of_lt (sub_le hm) hsd, more_lt hb hm, HH.out x hm⟩
  have HGP := hide hgp
  have HBB := hide hB
  have HSEQ := hide (pparts_seq (andNot (fullN m.n) b) hsd gp).toY
  have hlpB : lp + 1 ≤ B := by have := HLP.out; omega
  have hnum : (stepsM m b).length = (L.flatMap (moreM m b)).length := by rw [← hL]; rfl
  have HNUM : Hid (stepsM m b = L.flatMap (moreM m b)) := by rw [← hL]; rfl
  rw [hsy, hgp]
  rw [hL] at HSEQ
  clear hOBz HF2 HZ H0 HI HO0 hS hOB HH HM HM2 HF1 HE1 hL hrun hf32 hsd
  refine wp_rangeY (n := L.length) rfl enters_pparts1 HSEQ.out (fun i O x V hi hX => by rw [hX]; rfl)
    (fun i O V => (J (((L.take i).flatMap (moreM m b)).length) (fun k => OB k ∨ O k ∨ ((k = B ∨ k = B + 1) ∧ k < V.heap.size)) V ∧ ∀ k, OB k → k < V.heap.size) ∧ S V ∧ ∀ k, OB k → ¬ O k)
    (fun c O V => c = .ret ∧ Jx (fun k => OB k ∨ O k ∨ ((k = B ∨ k = B + 1) ∧ k < V.heap.size)) V ∧ ∀ k, OB k → k < V.heap.size) ?_ ?_ ?_ ?_ ?_ ?_ ?_ ?_ ?_
  · exact fun _ _ _ _ => trivial
  · intro i
    rw [HBB.out]
    exact rely_own (HJ.out _) (fun k hk => by have := HOBZ.out k hk; omega) HSK.out
  · rintro c O O' V V' ⟨hc, h1⟩ hoff hG
    rw [HBB.out] at hoff
    exact ⟨hc, rely_in HJX.out OB (fun k => k = B ∨ k = B + 1) O O' V V' h1 hoff hG⟩
  · exact fun V hE => HGP.out ▸ HB2.out.ext hE
  · rintro k rfl; omega
  · exact ⟨⟨by simpa using HJ2.out, fun k hk => by have := HOBZ.out k hk; omega⟩, HS2.out, fun k hk h => by have := HOBZ.out k hk; omega⟩
  · rintro l i x O V hi rfl ⟨⟨hj, hjz⟩, h2, h5⟩ hOV hl hlV
    rw [HBB.out] at hl ⊢
    obtain ⟨more, hmo⟩ : ∃ more, L.getD i 0 = more := ⟨_, rfl⟩
    have hLi : L[i]? = some more := by rw [← hmo, List.getD_eq_getElem?_getD, List.getElem?_eq_getElem hi]; rfl
    rw [hmo]
    obtain ⟨hm32, hto, hask⟩ := HSB.out i more hLi
    obtain ⟨OC, hOC⟩ : ∃ OC : Nat → Prop, OC = fun k => OB k ∨ O k ∨ ((k = B ∨ k = B + 1) ∧ k < V.heap.size) := ⟨_, rfl⟩
    rw [← hOC] at hj
    have hor := or_run hb32 hm32
    have HOFF : Hid (((L.take (i + 1)).flatMap (moreM m b)).length = ((L.take i).flatMap (moreM m b)).length + (moreM m b more).length) := flat_off _ _ _ _ hLi
    obtain ⟨off, hoff⟩ : ∃ off, ((L.take i).flatMap (moreM m b)).length = off := ⟨_, rfl⟩
    rw [hoff] at HOFF hj
    have HIDX : Hid (∀ j x, (moreM m b more)[j]? = some x → (stepsM m b)[off + j]? = some x) := fun j x hx => by rw [HNUM.out, ← hoff]; exact flat_at _ _ _ _ _ _ hLi hx
    clear hoff hmo hi hLi
    gi_wp2_with fail
    refine ⟨⟨KF.refl _ _, fun _ _ => rfl⟩, fun V2 hC hrec => ?_⟩
    have keep : ∀ k, OB k → V2.heap[k]? = V.heap[k]? := fun k hk => hC.block k (hjz k hk) fun e => by have := HOBZ.out k hk; omega
    have hOCz : ∀ k, OC k → k < V2.heap.size := fun k hk => by
      have := hC.size
      rw [hOC] at hk
      rcases hk with hk | hk | ⟨_, hk⟩
      · have := hjz k hk; omega
      · have := hOV k hk; omega
      · omega
    have hj2 := HJ.out off OC OC V V2 hj ⟨hC.os, hC.tape, hC.output, hC.size, fun k hk hn => hC.block k hk fun e => hn (by rw [hOC, e]; exact .inr (.inr ⟨.inr hl, hlV⟩))⟩ (fun k hk => ⟨.inl hk, hOCz k hk⟩)
    obtain ⟨tb, htb⟩ : ∃ tb, V2.heap.size = tb := ⟨_, rfl⟩
    have hsV2 := HSK.out V V2 h2 keep
    obtain ⟨k1, k2, k3⟩ := HSS.out V2 hsV2
    have c2 := k2.cell
    have z2 := lt_of_heap k2
    have HSV := hide hsV2
    have HJV := hide hj2
    have HCZ := hide hOCz
    have HOC : Hid ((∀ k, OB k → OC k) ∧ (∀ k, O k → OC k) ∧ (OC B ∧ OC (B + 1)) ∧ ∀ k, OC k → OB k ∨ O k ∨ k = B ∨ k = B + 1) := by
      rw [hOC]
      exact ⟨fun k h => .inl h, fun k h => .inr (.inl h), ⟨.inr (.inr ⟨.inl rfl, by omega⟩), .inr (.inr ⟨.inr rfl, by omega⟩)⟩, fun k h => h.elim .inl fun h => h.elim (fun h => .inr (.inl h)) fun h => .inr (.inr h.1)⟩
    have HVZ : Hid (V.heap.size ≤ V2.heap.size) := hC.size
    have HOV := hide hOV
    have HH5 := hide h5
    have HREC := hide hrec
    clear hj hj2 hOC h2 hsV2 hC keep hOCz hjz hOV h5 k1 k2 k3 hrec
    gi_wp2_with fail
    obtain ⟨Va, hVa⟩ : ∃ Va, V2.alloc (.cells #[.int .i64 (b ||| more : Nat)] 3) = Va := ⟨_, rfl⟩
    have HEa : Hid (Ext V2 Va) := by show Ext _ _; rw [← hVa]; exact (Ext.refl _).alloc _
    have HTa : Hid (NBox Va tb (b ||| more : Nat)) := by show _ = _; rw [← hVa, ← htb]; exact heap_alloc_new V2 _
    rw [hVa]
    clear hVa c2 z2 hor
    have HTB := hide htb
    have HFa : Hid (∀ Z, Ext Va Z → S Z ∧ NBox Z tb (b ||| more : Nat)) := fun Z hZ => ⟨HSK.out V2 Z HSV.out fun k hk => (HEa.out.trans hZ).b.block k (HCZ.out k (HOC.out.1 k hk)), HTa.out.ext hZ⟩
    refine wpIn_region_ha (fun Z => Ext Va Z) (by kernel_rfl) (by kernel_rfl) ?_
    intro Wd hWd
    have hR : Ext Va Wd := by rw [hWd]; exact (Ext.refl Va).drew
    clear hWd
    refine wpAnyT_take (i := 0) (.pointer (some ⟨sm, 0, none⟩)) rfl (by kernel_rfl) (by kernel_rfl) (by kernel_rfl) (by simp [Region.wanted]) (fun Z hZ => by go_simp) hR ?_
    try simp only [Act.put, List.getElem_toArray, List.getElem_cons_zero, List.setIfInBounds_toArray, List.set_cons_zero, List.set_cons_succ]
    refine wpAnyT_take (i := 1) (.int .i64 m.n) rfl (by kernel_rfl) (by kernel_rfl) (by kernel_rfl) (by simp [Region.wanted]) (fun Z hZ => by
      have hb := (HSS.out Z (HFa.out Z hZ).1).1
      have x0 : Z.cell? ⟨sm, 0, none⟩ = some (.int .i64 m.n) := cells_at hb 0
      have xz := lt_of_heap hb
      go_simp) hR ?_
    try simp only [Act.put, List.getElem_toArray, List.getElem_cons_zero, List.getElem_cons_succ, List.setIfInBounds_toArray, List.set_cons_zero, List.set_cons_succ]
    refine wpAnyT_take (i := 2) (.int .i64 (b ||| more : Nat)) rfl (by kernel_rfl) (by kernel_rfl) (by kernel_rfl) (by simp [Region.wanted]) (fun Z hZ => by
      have x0 := (HFa.out Z hZ).2.cell
      have xz := lt_of_heap (HFa.out Z hZ).2
      go_simp) hR ?_
    try simp only [Act.put, List.getElem_toArray, List.getElem_cons_zero, List.getElem_cons_succ, List.setIfInBounds_toArray, List.set_cons_zero, List.set_cons_succ]
    refine wpAnyT_take (i := 4) (.pointer (some ⟨sm, 1, none⟩)) rfl (by kernel_rfl) (by kernel_rfl) (by kernel_rfl) (by simp [Region.wanted]) (fun Z hZ => by go_simp) hR ?_
    try simp only [Act.put, List.getElem_toArray, List.getElem_cons_zero, List.getElem_cons_succ, List.setIfInBounds_toArray, List.set_cons_zero, List.set_cons_succ]
    refine wpAnyT_take (i := 5) (.int .i64 m.f) rfl (by kernel_rfl) (by kernel_rfl) (by kernel_rfl) (by simp [Region.wanted]) (fun Z hZ => by
      have hb := (HSS.out Z (HFa.out Z hZ).1).1
      have x0 : Z.cell? ⟨sm, 1, none⟩ = some (.int .i64 m.f) := cells_at hb 1
      have xz := lt_of_heap hb
      go_simp) hR ?_
    try simp only [Act.put, List.getElem_toArray, List.getElem_cons_zero, List.getElem_cons_succ, List.setIfInBounds_toArray, List.set_cons_zero, List.set_cons_succ]
    refine wpAnyT_one (i := 3) rfl (by kernel_rfl) (fun K hK => ?_)
    go_wp2_with fail
    refine (psize_any m.n hn hn5 (b ||| more) hto Wd).mono ?_
    rintro e Wd2 ⟨rfl, rfl⟩
    go_wp2_with fail
    refine ⟨rfl, hK _ _ hR ?_⟩
    clear hK K
    try simp only [Act.put, List.getElem_toArray, List.getElem_cons_zero, List.getElem_cons_succ, List.setIfInBounds_toArray, List.set_cons_zero, List.set_cons_succ]
    have HR2 := hide (HEa.out.trans hR)
    have HFd := hide (HFa.out Wd2 hR)
    by_cases hsz : m.f < sizeN (b ||| more)
    · have hd : decide ((m.f : Int) < (sizeN (b ||| more) : Nat)) = true := decide_eq_true (by omega)
      have HNIL : Hid (moreM m b more = []) := if_pos hsz
      refine wpAnyT_take (i := 6) (.bool true) rfl (by kernel_rfl) (by kernel_rfl) (by kernel_rfl) (by simp [Region.wanted]) (fun V hV => by go_simp) hR ?_
      try simp only [Act.put, List.getElem_toArray, List.getElem_cons_zero, List.getElem_cons_succ, List.setIfInBounds_toArray, List.set_cons_zero, List.set_cons_succ]
      refine wpAnyT_done (by kernel_rfl) ?_ _
      clear hsz hd HFa HTa HEa hR
      gi_wp2_with fail
      have hz2 := HVZ.out
      have hz3 := HR2.out.size
      refine ⟨KFO.of_ext HR2.out fun k hk => HCZ.out k (HOC.out.2.1 k hk), ⟨?_, fun k hk => by have := HCZ.out k (HOC.out.1 k hk); omega⟩, HFd.out.1, HH5.out⟩
      rw [HOFF.out, HNIL.out]
      refine HJ.out off OC _ V2 Wd2 HJV.out (Off.of_ext HR2.out) fun k hk => ?_
      rcases hk with hk | hk | ⟨hk, h3⟩
      · exact ⟨.inl (HOC.out.1 k hk), by have := HCZ.out k (HOC.out.1 k hk); omega⟩
      · exact ⟨.inl (HOC.out.2.1 k hk), by have := HCZ.out k (HOC.out.2.1 k hk); omega⟩
      · exact ⟨.inl (by rcases hk with rfl | rfl; exact HOC.out.2.2.1.1; exact HOC.out.2.2.1.2), h3⟩
    · have hd : decide ((m.f : Int) < (sizeN (b ||| more) : Nat)) = false := decide_eq_false (by omega)
      have HSOME : Hid (moreM m b more = (graphsM m b (b ||| more)).map fun g => (⟨g, (b ||| more : Nat)⟩, b ||| more)) := if_neg hsz
      refine wpAnyT_take (i := 6) (.bool false) rfl (by kernel_rfl) (by kernel_rfl) (by kernel_rfl) (by simp [Region.wanted]) (fun V hV => by go_simp) hR ?_
      try simp only [Act.put, List.getElem_toArray, List.getElem_cons_zero, List.getElem_cons_succ, List.setIfInBounds_toArray, List.set_cons_zero, List.set_cons_succ]
      refine wpAnyT_done (by kernel_rfl) ?_ _
      clear hsz hd HFa HTa HEa hR
      have hb := (HSS.out Wd2 HFd.out.1).1
      have x0 : Wd2.cell? ⟨sm, 0, none⟩ = some (.int .i64 m.n) := cells_at hb 0
      have x1 : Wd2.cell? ⟨sm, 1, none⟩ = some (.int .i64 m.f) := cells_at hb 1
      have x2 : Wd2.cell? ⟨sm, 2, none⟩ = some (.func (.func rid) #[] rlb) := cells_at hb 2
      have x3 : Wd2.cell? ⟨sm, 3, none⟩ = some (.func (.func fid) #[] flb) := cells_at hb 3
      have xz := lt_of_heap hb
      have y0 := (HSS.out Wd2 HFd.out.1).2.1.cell
      have yz := lt_of_heap (HSS.out Wd2 HFd.out.1).2.1
      have t0 := HFd.out.2.cell
      have tz := lt_of_heap HFd.out.2
      clear hb
      gi_wp2_with fail
      refine ⟨trivial, rfl, CallsIn.inRound _ ((callsIn_wide (n := 0)).2 ((mgraphs_any m.n m.f b (b ||| more) rid fid rlb flb Wd2).mono ?_))⟩
      rintro e W4 ⟨rfl, hme, hE4⟩
      obtain ⟨Z4, hZ4⟩ : ∃ Z4, Wd2.heap.size = Z4 := ⟨_, rfl⟩
      obtain ⟨B2, hB2⟩ : ∃ B2, W4.heap.size = B2 := ⟨_, rfl⟩
      obtain ⟨OA, hOA⟩ : ∃ OA : Nat → Prop, OA = fun k => OC k ∨ k = tb := ⟨_, rfl⟩
      have htbz := HTB.out
      have hz4 : tb < Z4 := by have := lt_of_heap HFd.out.2; omega
      have hzB : Z4 + 1 + 1 < B2 := by have := lt_of_heap hme.oo; omega
      have HR4 := hide (HR2.out.trans hE4)
      have HF4 : Hid (S W4 ∧ NBox W4 tb (b ||| more : Nat)) := ⟨HSK.out Wd2 W4 HFd.out.1 fun k hk => hE4.b.block k (by have := HCZ.out k (HOC.out.1 k hk); have := HR2.out.size; omega), HFd.out.2.ext hE4⟩
      have HME := hide hme
      have HOAC : Hid (∀ k, OC k → OA k) := by rw [hOA]; exact fun k h => .inl h
      have HOAT : Hid (OA tb) := by rw [hOA]; exact .inr rfl
      have HOAZ : Hid (∀ k, OA k → k ≤ tb) := by
        rw [hOA]
        rintro k (hk | rfl)
        · have := HCZ.out k hk; omega
        · omega
      have hl0 : ∃ r, W4.heap[l]? = some (.loop r) := by
        obtain ⟨r, hr⟩ := HREC.out
        exact ⟨r, (HR4.out.b.block _ (lt_of_heap hr)).trans hr⟩
      have HJ4 : Hid (J off (fun k => OA k ∨ (k = Z4 ∨ k = Z4 + 1 ∨ k = Z4 + 1 + 1) ∨ (k = B2 ∧ k < W4.heap.size)) W4) := by
        refine HJ.out off _ _ _ _ HJV.out (Off.of_ext HR4.out) fun k hk => ?_
        rcases hk with hk | hk | ⟨hk, h3⟩
        · refine ⟨?_, by have := HOAZ.out k hk; omega⟩
          rw [hOA] at hk
          rcases hk with hk | hk
          · exact .inl hk
          · exact .inr (by omega)
        · exact ⟨.inr (by omega), by omega⟩
        · exfalso; omega
      have HZ4 := hide hZ4
      have HB2 := hide hB2
      have HZB : Hid (tb < Z4 ∧ Z4 + 1 + 1 < B2) := ⟨hz4, hzB⟩
      have HASK := hide hask
      have HLEN : Hid ((moreM m b more).length = (graphsM m b (b ||| more)).length) := by rw [HSOME.out]; exact List.length_map _
      clear hme hE4 hOA x0 x1 x2 x3 xz y0 yz t0 tz htbz hask HR2 HFd
      gi_wp2_with fail
      refine wpIn_rangeY (n := (graphsM m b (b ||| more)).length) hl0 rfl enters_mgraphs1 (mgraphs_seq HASK.out Z4 (Z4 + 1) (Z4 + 1 + 1)) (fun i O x V hi hX => by obtain ⟨g, -, rfl⟩ := hX; rfl)
        (fun j O2 V => (J (off + j) (fun k => OA k ∨ O2 k ∨ (k = B2 ∧ k < V.heap.size)) V ∧ ∀ k, OA k → k < V.heap.size) ∧ (S V ∧ NBox V tb (b ||| more : Nat)) ∧ KFO B O V2 V ∧ ∀ k, O2 k → tb ≤ k ∧ ¬ OA k)
        (fun c O2 V => c = .ret ∧ (Jx (fun k => OA k ∨ O2 k ∨ (k = B2 ∧ k < V.heap.size)) V ∧ ∀ k, OA k → k < V.heap.size) ∧ True ∧ KFO B O V2 V ∧ ∀ k, O2 k → tb ≤ k ∧ ¬ OA k) ?_ ?_ ?_ ?_ ?_ ?_ ?_ ?_ ?_
      · exact fun j O2 V h => HD.out _ _ _ h.1.1
      · intro j
        rw [HB2.out]
        exact rely_inr (HJ.out _) (fun k hk => by have := HOAZ.out k hk; omega) (fun k hk => HOAC.out k (HOC.out.2.1 k hk)) (fun V V' h hk => ⟨HSK.out V V' h.1 fun k h2 => hk k (HOAC.out k (HOC.out.1 k h2)), h.2.of (hk _ HOAT.out)⟩) HTB.out (by omega)
      · rintro c O1 O2 V V' ⟨hc, h⟩ hoff hG
        rw [HB2.out] at hoff
        exact ⟨hc, rely_inr (S := fun _ => True) HJX.out (fun k hk => by have := HOAZ.out k hk; omega) (fun k hk => HOAC.out k (HOC.out.2.1 k hk)) (fun V V' h hk => trivial) HTB.out (by omega) O1 O2 V V' h hoff hG⟩
      · exact fun V hE => HZ4.out ▸ HME.out.ext hE
      · rintro k hk; omega
      · exact ⟨⟨HJ4.out, fun k hk => by have := HOAZ.out k hk; omega⟩, HF4.out, KFO.of_ext HR4.out fun k hk => HCZ.out k (HOC.out.2.1 k hk), fun k hk => ⟨by omega, fun ha => by have := HOAZ.out k ha; omega⟩⟩
      · rintro l2 j x O2 V5 hj ⟨g, hg, rfl⟩ ⟨⟨hj5, hjz5⟩, hs5, hk5, h5⟩ hOV5 hl2 hlV5
        rw [HB2.out] at hl2 ⊢
        obtain ⟨OD, hOD⟩ : ∃ OD : Nat → Prop, OD = fun k => OA k ∨ O2 k ∨ (k = B2 ∧ k < V5.heap.size) := ⟨_, rfl⟩
        rw [← hOD] at hj5
        gi_wp2_with fail
        refine ⟨KFO.of_ext ((Ext.refl V5).alloc _) hOV5, fun V6 hC6 hrec6 => ?_⟩
        have hgl : V6.heap[V5.heap.size]? = some (.cells (Gr.cells g).toArray 36 (0, 0)) := by
          refine (hC6.block _ (by simp) (by omega)).trans ?_
          exact heap_alloc_new V5 _
        have hz6 := hC6.size
        have hz6' : V5.heap.size < V6.heap.size := by simp at hz6; omega
        have hb6 : ∀ k, k < V5.heap.size → k ≠ B2 → V6.heap[k]? = V5.heap[k]? := fun k hk hn => (hC6.block k (by simp; omega) (by omega)).trans (Below.heap_alloc _ _ _ (by omega))
        have hODz : ∀ k, OD k → k < V6.heap.size := fun k hk => by
          rw [hOD] at hk
          rcases hk with hk | hk | ⟨_, hk⟩
          · have := hjz5 k hk; omega
          · have := hOV5 k hk; omega
          · omega
        have hODB : OD B2 := by rw [hOD]; exact .inr (.inr ⟨rfl, by omega⟩)
        have hj6 : J (off + j) OD V6 := HJ.out _ OD OD V5 V6 hj5 ⟨hC6.os, hC6.tape, hC6.output, by omega, fun k hk hn => hb6 k hk fun e => hn (by rw [e]; exact hODB)⟩ (fun k hk => ⟨.inl hk, hODz k hk⟩)
        have keep6 : ∀ k, OA k → V6.heap[k]? = V5.heap[k]? := fun k hk => hb6 k (hjz5 k hk) (by have := HOAZ.out k hk; omega)
        have hS6 : S V6 ∧ NBox V6 tb (b ||| more : Nat) := ⟨HSK.out V5 V6 hs5.1 fun k h2 => keep6 k (HOAC.out k (HOC.out.1 k h2)), hs5.2.of (keep6 _ HOAT.out)⟩
        have hk6 : KF B V2 V6 := ⟨Nat.le_trans hk5.f.1 (by omega), fun k o hk ho hc => by
          have hV := hk5.f.2 k o hk ho hc
          have hlt := lt_of_heap ho
          exact (hb6 k (lt_of_heap hV) (by have := HTB.out; omega)).trans hV⟩
        have ho6 : KO O V2 V6 := fun k hk => (keep6 k (HOAC.out k (HOC.out.2.1 k hk))).trans (hk5.o k hk)
        obtain ⟨y3, hy3⟩ : ∃ y, V5.heap.size = y := ⟨_, rfl⟩
        have hyb := (HSS.out V6 hS6.1).2.2
        have y0 : V6.cell? ⟨sy, 0, none⟩ = some (.func (.yield lp) #[] #[]) := cells_at hyb 0
        have yz := lt_of_heap hyb
        have t0 := hS6.2.cell
        have tz := lt_of_heap hS6.2
        rw [hy3] at hgl
        obtain ⟨g0, g1, g2, g3, g4, g5, gz⟩ := GrBox.cells hgl
        have hst : (moreM m b more)[j]? = some (⟨g, (b ||| more : Nat)⟩, b ||| more) := by
          rw [HSOME.out, List.getElem?_map]
          show ((graphsM m b (b ||| more))[j]?).map _ = _
          rw [show (graphsM m b (b ||| more))[j]? = some g from hg]; rfl
        have hst := HIDX.out j _ hst
        obtain ⟨fn, tmps, assign, body, hy, hR⟩ := HY.out (off + j) #[stpV (⟨g, (b ||| more : Nat)⟩, b ||| more)] OD V6 (List.getElem?_eq_some_iff.1 hst).1 ⟨_, hst, rfl⟩ hj6 hODz
        have HRR := hide hR
        have HOD : Hid ((∀ k, OA k → OD k) ∧ (∀ k, O2 k → OD k) ∧ OD B2) := by rw [hOD]; exact ⟨fun k h => .inl h, fun k h => .inr (.inl h), .inr (.inr ⟨rfl, by omega⟩)⟩
        have HODZ := hide hODz
        have HS6 := hide hS6
        have HK6 := hide hk6
        have HO6 := hide ho6
        have HH52 := hide h5
        have HV6 : Hid (V5.heap.size < V6.heap.size) := hz6'
        rw [← hy3] at g0 g1 g2 g3 g4 g5 gz
        clear hR hj5 hj6 hOD hODz hS6 hk6 ho6 hs5 hk5 h5 hst keep6 hb6 hz6 hz6' hgl hyb hC6 hODB hjz5 hOV5 hy3
        unfold stpV at hy
        gi_wp2_with fail
        refine ⟨rfl, HRR.out.mono ?_⟩
        rintro e V7 ⟨⟨hko, hsz, hkf⟩, hres⟩
        have koA : ∀ k, OA k → V7.heap[k]? = V6.heap[k]? := fun k hk => hko k (HOD.out.1 k hk)
        have HKFO : Hid (KFO B2 O2 V6 V7) := ⟨hkf.up (by have := HVZ.out; have := HTB.out; have := HZB.out; omega), fun k hk => hko k (HOD.out.2.1 k hk)⟩
        have HS7 : Hid (S V7 ∧ NBox V7 tb (b ||| more : Nat)) := ⟨HSK.out V6 V7 HS6.out.1 fun k h2 => koA k (HOAC.out k (HOC.out.1 k h2)), HS6.out.2.of (koA _ HOAT.out)⟩
        have HK7 : Hid (KFO B O V2 V7) := ⟨HK6.out.trans (hkf.up hlpB), fun k hk => (koA k (HOAC.out k (HOC.out.2.1 k hk))).trans (HO6.out k hk)⟩
        have hv6 := HV6.out
        have HGW : Hid (Grow OD (fun k => OA k ∨ O2 k ∨ (k = B2 ∧ k < V7.heap.size)) V7 V7) := fun k hk => by
          rcases hk with hk | hk | ⟨hk, h3⟩
          · exact ⟨.inl (HOD.out.1 k hk), by have := HODZ.out k (HOD.out.1 k hk); omega⟩
          · exact ⟨.inl (HOD.out.2.1 k hk), by have := HODZ.out k (HOD.out.2.1 k hk); omega⟩
          · exact ⟨.inl (by rw [hk]; exact HOD.out.2.2), h3⟩
        have HBD : Hid (∀ k, OA k → k < V7.heap.size) := fun k hk => by have := HODZ.out k (HOD.out.1 k hk); omega
        clear hko hkf koA y0 yz t0 tz g0 g1 g2 g3 g4 g5 gz hy HRR hsz
        rcases hres with ⟨rfl, hJ'⟩ | ⟨rfl, hJx'⟩
        · have HJ' := hide (HJ.out _ _ _ _ _ hJ' (Off.refl _ _) HGW.out)
          clear hJ'
          gi_wp2_with fail
          exact ⟨HKFO.out, ⟨HJ'.out, HBD.out⟩, HS7.out, HK7.out, HH52.out⟩
        · have HJ' := hide (HJX.out _ _ _ _ hJx' (Off.refl _ _) HGW.out)
          clear hJx'
          gi_wp2_with fail
          exact ⟨HKFO.out, rfl, ⟨HJ'.out, HBD.out⟩, trivial, HK7.out, HH52.out⟩
      · rintro O2 V5 ⟨⟨hj5, hjz5⟩, hs5, hk5, h5⟩
        have hv := HVZ.out
        have hz5 := hk5.f.1
        have htb2 := HTB.out
        have hgw : Grow (fun k => OA k ∨ O2 k ∨ (k = B2 ∧ k < V5.heap.size)) (fun k => OB k ∨ O k ∨ ((k = B ∨ k = B + 1) ∧ k < V5.heap.size)) V5 V5 := fun k hk => by
          rcases hk with hk | hk | ⟨hk, h3⟩
          · exact ⟨.inl (.inl (HOAC.out k (HOC.out.1 k hk))), by have := HCZ.out k (HOC.out.1 k hk); omega⟩
          · exact ⟨.inl (.inl (HOAC.out k (HOC.out.2.1 k hk))), by have := HCZ.out k (HOC.out.2.1 k hk); omega⟩
          · exact ⟨.inl (.inl (HOAC.out k (by rcases hk with rfl | rfl; exact HOC.out.2.2.1.1; exact HOC.out.2.2.1.2))), h3⟩
        have HJ' := hide (HJ.out _ _ _ _ _ hj5 (Off.refl _ _) hgw)
        have HBD : Hid (∀ k, OB k → k < V5.heap.size) := fun k hk => by have := HCZ.out k (HOC.out.1 k hk); omega
        have HS5 := hide hs5
        have HK5 := hide hk5
        clear hj5 hgw hs5 hk5 h5 hjz5 hz5 htb2 hv
        gi_wp2_with fail
        refine ⟨HK5.out, ⟨?_, HBD.out⟩, HS5.out.1, HH5.out⟩
        rw [HOFF.out, HLEN.out]
        exact HJ'.out
      · rintro c O2 V5 ⟨rfl, ⟨hj5, hjz5⟩, -, hk5, h5⟩
        have hv := HVZ.out
        have hz5 := hk5.f.1
        have htb2 := HTB.out
        have hgw : Grow (fun k => OA k ∨ O2 k ∨ (k = B2 ∧ k < V5.heap.size)) (fun k => OB k ∨ O k ∨ ((k = B ∨ k = B + 1) ∧ k < V5.heap.size)) V5 V5 := fun k hk => by
          rcases hk with hk | hk | ⟨hk, h3⟩
          · exact ⟨.inl (.inl (HOAC.out k (HOC.out.1 k hk))), by have := HCZ.out k (HOC.out.1 k hk); omega⟩
          · exact ⟨.inl (.inl (HOAC.out k (HOC.out.2.1 k hk))), by have := HCZ.out k (HOC.out.2.1 k hk); omega⟩
          · exact ⟨.inl (.inl (HOAC.out k (by rcases hk with rfl | rfl; exact HOC.out.2.2.1.1; exact HOC.out.2.2.1.2))), h3⟩
        have HJ' := hide (HJX.out _ _ _ _ hj5 (Off.refl _ _) hgw)
        have HBD : Hid (∀ k, OB k → k < V5.heap.size) := fun k hk => by have := HCZ.out k (HOC.out.1 k hk); omega
        have HK5 := hide hk5
        clear hj5 hgw hk5 h5 hjz5 hz5 htb2 hv
        gi_wp2_with fail
        exact ⟨HK5.out, rfl, HJ'.out, HBD.out⟩
  · rintro M O V ⟨⟨hj, hjz⟩, -, -⟩ hM hMM
    rw [HBB.out] at hM
    subst hM
    have hz := lt_of_heap hMM
    have hj2 := HJ.out _ _ (fun _ => False) _ (V.putObj M (.deferred none)) hj ⟨rfl, rfl, rfl, by simp, fun k _ hn => World.putObj_heap_other fun e => hn (.inr (.inr ⟨.inl e, by omega⟩))⟩ (fun k hk => hk.elim)
    go_wp2_with fail
    rw [List.take_length, ← hnum] at hj2
    exact leave_mark rfl hMM (results_none rfl _ _ _) ⟨⟨_, rfl⟩, _, .inl hj2⟩
  · rintro M c O V ⟨rfl, hj, hjz⟩ hM hMM
    rw [HBB.out] at hM
    subst hM
    have hz := lt_of_heap hMM
    have hj2 := HJX.out _ (fun _ => False) _ (V.putObj M (.deferred none)) hj ⟨rfl, rfl, rfl, by simp, fun k _ hn => World.putObj_heap_other fun e => hn (.inr (.inr ⟨.inl e, by omega⟩))⟩ (fun k hk => hk.elim)
    go_wp2_with fail
    exact leave_mark rfl hMM (results_none rfl _ _ _) ⟨⟨_, rfl⟩, _, .inr hj2⟩
end Go.Proofs.Ytnhgdjiljjpgmaa
