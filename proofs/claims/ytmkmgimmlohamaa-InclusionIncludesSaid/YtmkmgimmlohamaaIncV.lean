/-
  The program's Verify, walked.
  Conditions: as each theorem states.
-/
import Derived.Test.YtmkmgimmlohamaaIncR
import Derived.Test.YtmkmgimmlohamaaKMaps
namespace Go.Proofs.Ytmkmgimmlohamaa
open Go.RowKit

def pcells (x : Int × Int) : List Value := [.int .i64 x.1, .int .i64 x.2]
theorem Row.pr_all {w : World} {v : Value} {ms : List (Int × Int)} (h : Row pcells 2 w v ms) :
    ∃ (p : Option Addr) (c : Nat), v = .slice p ms.length c ∧ ms.length ≤ c ∧ ms.length ≤ 17592186044416 ∧
      (0 < ms.length → ∃ b o, p = some ⟨b, o, none⟩ ∧ b < w.heap.size ∧ ∀ i, i < ms.length → ∀ W, Ext w W → W.cell? ⟨b, o + i * 2, none⟩ = some (.int .i64 (ms.getD i default).1) ∧ W.cell? ⟨b, o + i * 2 + 1, none⟩ = some (.int .i64 (ms.getD i default).2)) := by
  obtain ⟨p, c, hv, h2, h3, h4⟩ := h
  refine ⟨p, c, hv, h2, by omega, fun hl => ?_⟩
  obtain ⟨b, o, hp, hb, hc⟩ := h4 hl
  refine ⟨b, o, hp, hb, fun i hi W hE => ?_⟩
  have hx : ms[i]? = some (ms.getD i default) := by rw [List.getD_eq_getElem?_getD, List.getElem?_eq_getElem hi]; rfl
  have h0 := hc i _ hx 0 _ rfl
  have h1 := hc i _ hx 1 _ rfl
  rw [Nat.add_zero] at h0
  exact ⟨(hE.cell hb).trans h0, (hE.cell hb).trans h1⟩
/-- Each move of the state of B of a pair has one of the state of A that stays in the list. -/
def folB (A B : Adv) (prs : List (Int × Int)) (p : Int × Int) : Bool := (B.st.getD p.1.toNat []).all fun m => decide (0 ≤ toL (A.st.getD p.2.toNat []) m.r) && decide ((m.to, toL (A.st.getD p.2.toNat []) m.r) ∈ prs)
def inbB (A B : Adv) (p : Int × Int) : Bool := decide (0 ≤ p.1 ∧ p.1 < B.L ∧ 0 ≤ p.2 ∧ p.2 < A.L)
/-- What Verify answers. -/
def verS (A B : Adv) (prs : List (Int × Int)) : Int :=
  if bothI A B ≠ 0 then bothI A B else if 65536 < prs.length then 5 else if prs.all (inbB A B) = false then 2 else if ((0 : Int), (0 : Int)) ∉ prs then 18 else if prs.all (folB A B prs) = false then 18 else 0
/-- A step of the rounds of both that breaks a simulation. -/
def brk (prs : List (Int × Int)) (s : St) : Bool := decide (0 ≤ s.x) && (decide (s.y < 0) || !decide ((s.x, s.y) ∈ prs))
theorem fol_merge {A B : Adv} (hA : achk A = 0) (hB : achk B = 0) (prs : List (Int × Int)) (p : Int × Int) :
    folB A B prs p = (mergeS (B.st.getD p.1.toNat []) (A.st.getD p.2.toNat [])).all fun s => !brk prs s := by
  have oA := okM_of hA p.2.toNat
  have oB := okM_of hB p.1.toNat
  unfold folB
  generalize A.st.getD p.2.toNat [] = ys at oA
  generalize B.st.getD p.1.toNat [] = xs at oB
  rw [Bool.eq_iff_iff, List.all_eq_true, List.all_eq_true]
  constructor
  · intro h s hs
    obtain ⟨h1, h2, h3⟩ := (merge_mem xs ys oB oA s).1 hs
    unfold brk
    by_cases hx : 0 ≤ s.x
    · rw [h2] at hx
      obtain ⟨m, hm, hmr⟩ := (toL_ge oB s.r).1 hx
      have := h m hm
      rw [Bool.and_eq_true, decide_eq_true_eq, decide_eq_true_eq, hmr] at this
      obtain ⟨h4, h5⟩ := this
      have hmt : s.x = m.to := by rw [h2, ← hmr, toL_in oB hm]
      rw [hmt, h3, decide_eq_false (show ¬ toL ys s.r < 0 by omega), decide_eq_true h5]
      simp
    · rw [decide_eq_false hx]; rfl
  · intro h m hm
    have hs : (⟨m.r, toL xs m.r, toL ys m.r⟩ : St) ∈ mergeS xs ys := (merge_mem xs ys oB oA _).2 ⟨.inl ⟨m, hm, rfl⟩, rfl, rfl⟩
    have := h _ hs
    unfold brk at this
    simp only [toL_in oB hm] at this
    have h0 := oB.to m hm
    rw [decide_eq_true h0, Bool.true_and, Bool.not_eq_true', Bool.or_eq_false_iff, Bool.not_eq_false', decide_eq_false_iff_not, decide_eq_true_eq] at this
    rw [Bool.and_eq_true, decide_eq_true_eq, decide_eq_true_eq]
    exact ⟨by omega, this.2⟩
theorem verS_err {A B : Adv} {prs : List (Int × Int)} (h : bothI A B ≠ 0) : verS A B prs = bothI A B := if_pos h
theorem verS_many {A B : Adv} {prs : List (Int × Int)} (h : bothI A B = 0) (h1 : 65536 < prs.length) : verS A B prs = 5 := by unfold verS; rw [if_neg (fun k => k h), if_pos h1]
theorem verS_range {A B : Adv} {prs : List (Int × Int)} (h : bothI A B = 0) (h1 : ¬ 65536 < prs.length) {p : Int × Int} (hp : p ∈ prs) (hb : inbB A B p = false) : verS A B prs = 2 := by
  unfold verS
  rw [if_neg (fun k => k h), if_neg h1, if_pos]
  rw [List.all_eq_false]
  exact ⟨p, hp, by rw [hb]; decide⟩
theorem verS_start {A B : Adv} {prs : List (Int × Int)} (h : bothI A B = 0) (h1 : ¬ 65536 < prs.length) (h2 : ∀ p ∈ prs, inbB A B p = true) (h3 : ((0 : Int), (0 : Int)) ∉ prs) : verS A B prs = 18 := by
  unfold verS
  rw [if_neg (fun k => k h), if_neg h1, if_neg (by rw [List.all_eq_true.2 h2]; decide), if_pos h3]
theorem verS_proof {A B : Adv} {prs : List (Int × Int)} (h : bothI A B = 0) (h1 : ¬ 65536 < prs.length) (h2 : ∀ p ∈ prs, inbB A B p = true) (h3 : ((0 : Int), (0 : Int)) ∈ prs) {p : Int × Int} (hp : p ∈ prs) (hf : folB A B prs p = false) : verS A B prs = 18 := by
  unfold verS
  rw [if_neg (fun k => k h), if_neg h1, if_neg (by rw [List.all_eq_true.2 h2]; decide), if_neg (fun k => k h3), if_pos]
  rw [List.all_eq_false]
  exact ⟨p, hp, by rw [hf]; decide⟩
theorem verS_ok {A B : Adv} {prs : List (Int × Int)} (h : bothI A B = 0) (h1 : ¬ 65536 < prs.length) (h2 : ∀ p ∈ prs, inbB A B p = true) (h3 : ((0 : Int), (0 : Int)) ∈ prs) (hf : ∀ p ∈ prs, folB A B prs p = true) : verS A B prs = 0 := by
  unfold verS
  rw [if_neg (fun k => k h), if_neg h1, if_neg (by rw [List.all_eq_true.2 h2]; decide), if_neg (fun k => k h3), if_neg (by rw [List.all_eq_true.2 hf]; decide)]
/-- The map of the pairs that are known. -/
def knL (prs : List (Int × Int)) : List ((Int × Int) × Value) := prs.foldl (fun l p => kput l p (.bool true)) []
theorem knL_snoc (prs : List (Int × Int)) (p : Int × Int) : knL (prs ++ [p]) = kput (knL prs) p (.bool true) := by unfold knL; rw [List.foldl_append]; rfl
theorem klook_mem {κ : Type} [DecidableEq κ] {k : κ} : ∀ {l : List (κ × Value)}, klook l k ≠ none ↔ ∃ x ∈ l, x.1 = k
  | [] => by simp [klook]
  | (q, v) :: l => by
    have ih := klook_mem (k := k) (l := l)
    simp only [klook]
    by_cases h : k = q
    · rw [if_pos h]
      simp [h]
    · rw [if_neg h, ih]
      constructor
      · rintro ⟨x, hx, hk⟩; exact ⟨x, List.mem_cons_of_mem _ hx, hk⟩
      · rintro ⟨x, hx, hk⟩
        rcases List.mem_cons.1 hx with rfl | hx
        · exact absurd hk.symm h
        · exact ⟨x, hx, hk⟩
theorem knL_look0 (q : Int × Int) : ∀ (prs : List (Int × Int)) (l : List ((Int × Int) × Value)), klook (prs.foldl (fun l p => kput l p (.bool true)) l) q = if q ∈ prs then some (.bool true) else klook l q
  | [], l => by rw [if_neg (by simp)]; rfl
  | p :: prs, l => by
    rw [List.foldl_cons, knL_look0 q prs, klook_put]
    by_cases h2 : q ∈ prs
    · rw [if_pos h2, if_pos (by simp [h2])]
    · rw [if_neg h2]
      by_cases h : q = p
      · rw [if_pos h, if_pos (by simp [h])]
      · rw [if_neg h, if_neg (by simp [h, h2])]
theorem knL_look (q : Int × Int) (prs : List (Int × Int)) : klook (knL prs) q = if q ∈ prs then some (.bool true) else none := knL_look0 q prs []
theorem knL_mem {prs : List (Int × Int)} {q : Int × Int} : (∃ x ∈ knL prs, x.1 = q) ↔ q ∈ prs := by
  rw [← klook_mem, knL_look]
  by_cases h : q ∈ prs
  · rw [if_pos h]; simp [h]
  · rw [if_neg h]; simp [h]
theorem knL_get {prs : List (Int × Int)} (q : Int × Int) : (klook (knL prs) q).getD (.bool false) = .bool (decide (q ∈ prs)) := by
  rw [knL_look]
  by_cases h : q ∈ prs
  · rw [if_pos h, decide_eq_true h]; rfl
  · rw [if_neg h, decide_eq_false h]; rfl
end Go.Proofs.Ytmkmgimmlohamaa

namespace Go.Proofs.Ytmkmgimmlohamaa
open Go.RowKit
attribute [local go_sem] Oper.semAt_some

/-- The heap of Verify behind its map: the adversaries' boxes, the result, the map's box; the map's block is m. -/
structure VrW (A B : Adv) (w : World) (z : Nat) (p : Option Addr) (c : Nat) (q : Option Addr) (d : Nat) (m : Nat) (W : World) : Prop where
  ext : Ext w W
  ab : W.heap[z]? = some (.cells #[.int .i64 A.n, .slice p A.L c] 24 (0, 0))
  bb : W.heap[z + 1]? = some (.cells #[.int .i64 B.n, .slice q B.L d] 24 (0, 0))
  rb : Box W (z + 1 + 1) 28 (.int .i64 0)
  mb : Box W (m + 1) 85 (.map (some m))
  big : z + 1 + 1 < m
theorem VrW.of {A B : Adv} {w : World} {z : Nat} {p : Option Addr} {c : Nat} {q : Option Addr} {d m : Nat} {W W' : World} (h : VrW A B w z p c q d m W) (hE : Ext w W') (hb : ∀ b, b ≤ z + 1 + 1 ∨ b = m + 1 → W'.heap[b]? = W.heap[b]?) : VrW A B w z p c q d m W' :=
  ⟨hE, (hb _ (by omega)).trans h.ab, (hb _ (by omega)).trans h.bb, (hb _ (by omega)).trans h.rb, (hb _ (by omega)).trans h.mb, h.big⟩
theorem VrW.mono {A B : Adv} {w : World} {z : Nat} {p : Option Addr} {c : Nat} {q : Option Addr} {d m : Nat} {W W' : World} (h : VrW A B w z p c q d m W) (hE : Ext W W') : VrW A B w z p c q d m W' :=
  h.of (h.ext.trans hE) fun b hb => hE.b.block _ (by have := h.mb.lt; have := h.big; omega)

/-- The frame at the head of the loop over the known pairs. -/
def vrF (z m r : Nat) (us : Nat → Value) (ds : List Deferred) : Act := { tmps := #[us 0, us 1, us 2, .pointer (some ⟨z, 0, none⟩), .pointer (some ⟨z + 1, 0, none⟩), us 5, .pointer (some ⟨z + 1 + 1, 0, none⟩), us 7, .pointer (some ⟨m + 1, 0, none⟩), us 9, us 10, us 11, us 12, us 13, us 14, us 15, us 16, us 17, us 18, us 19, us 20, us 21, us 22, us 23, us 24, us 25, us 26, us 27, us 28, us 29, us 30, us 31, us 32, us 33, us 34, us 35, us 36, us 37, us 38, us 39, us 40, us 41, us 42, us 43, us 44, us 45, us 46, us 47, us 48, us 49, us 50, us 51, us 52, us 53, us 54, us 55, us 56, us 57, us 58, us 59, us 60, .pointer (some ⟨r, 0, none⟩), us 62, us 63, us 64, us 65, us 66, us 67, us 68, us 69, us 70, us 71, us 72, us 73, us 74, us 75, us 76, us 77, us 78, us 79, us 80, us 81, us 82, us 83, us 84, us 85, us 86, us 87, us 88, us 89, us 90, us 91, us 92, us 93, us 94, us 95, us 96], defers := ds }
def VrI (A B : Adv) (prs : List (Int × Int)) (w : World) (z : Nat) (p : Option Addr) (c : Nat) (q : Option Addr) (d m r : Nat) (n : Nat) (a : Act) (W : World) : Prop :=
  ∃ (ds : List Deferred) (us : Nat → Value) (left : List ((Int × Int) × Value)), a = vrF z m r us ds ∧ n = left.length ∧ VrW A B w z p c q d m W ∧ KR penc W m r (knL prs) left ∧ (∀ x ∈ knL prs, x ∈ left ∨ folB A B prs x.1 = true) ∧ (∀ x ∈ left, x ∈ knL prs) ∧ Marks z W W.heap.size ds
theorem VrI.intro {A B : Adv} {prs : List (Int × Int)} {w : World} {z : Nat} {p : Option Addr} {c : Nat} {q : Option Addr} {d m r n : Nat} {a : Act} {W : World} {ds : List Deferred} {left : List ((Int × Int) × Value)}
    (h1 : a = vrF z m r (fun i => a.tmps.getD i undef) ds) (h2 : n = left.length) (h3 : VrW A B w z p c q d m W) (h4 : KR penc W m r (knL prs) left) (h5 : ∀ x ∈ knL prs, x ∈ left ∨ folB A B prs x.1 = true) (h6 : ∀ x ∈ left, x ∈ knL prs) (h7 : Marks z W W.heap.size ds) : VrI A B prs w z p c q d m r n a W :=
  ⟨ds, _, left, h1, h2, h3, h4, h5, h6, h7⟩
/-- In the range over the steps of a pair: what holds ahead of step j. -/
structure VrJ (A B : Adv) (prs : List (Int × Int)) (w : World) (z : Nat) (p : Option Addr) (c : Nat) (q : Option Addr) (d m r pb : Nat) (left : List ((Int × Int) × Value)) (ds : List Deferred) (L : List St) (j : Nat) (O : Nat → Prop) (V : World) : Prop where
  w : VrW A B w z p c q d m V
  k : KR penc V m r (knL prs) left
  s : ∀ e ∈ L.take j, brk prs e = false
  mks : Marks z V pb ds
  o : ∀ b, O b → pb < b
  pz : pb < V.heap.size
  pm : m + 1 < pb
  pr : r < pb
theorem VrJ.rely {A B : Adv} {prs : List (Int × Int)} {w : World} {z : Nat} {p : Option Addr} {c : Nat} {q : Option Addr} {d m r pb : Nat} {left : List ((Int × Int) × Value)} {ds : List Deferred} {L : List St} {j : Nat} {O O' : Nat → Prop} {V V' : World} {Bz : Nat}
    (h : VrJ A B prs w z p c q d m r pb left ds L j O V) (hz : w.heap.size = z) (hB : pb < Bz) (hC : OffC Bz O V V') (hG : Grow O O' V V') : VrJ A B prs w z p c q d m r pb left ds L j O' V' := by
  have hbig := h.w.big
  have hpm := h.pm
  have hpr := h.pr
  have hpz := h.pz
  have no : ∀ b, b ≤ pb → ¬ O b := fun b hb ho => by have := h.o b ho; omega
  refine ⟨h.w.of (h.w.ext.offc hC (by omega) (fun b hb => by have := h.o b hb; omega)) fun b hb => hC.low b (by omega) (by omega) (no _ (by omega)), h.k.of_block (hC.low _ (by omega) (by omega) (no _ (by omega))) (hC.low _ (by omega) (by omega) (no _ (by omega))), h.s, h.mks.of_heap (fun b _ hb hh => hC.low b (by omega) (lt_of_heap hh) (no _ (by omega))), fun b hb => ?_, ?_, hpm, hpr⟩
  · rcases (hG b hb).1 with h1 | h1
    · exact h.o b h1
    · omega
  · have := hC.size; omega
/-- A step that breaks the simulation was met: the result lies in its box. -/
structure VrX (w : World) (z pb : Nat) (ds : List Deferred) (O : Nat → Prop) (V : World) : Prop where
  ext : Ext w V
  rb : Box V (z + 1 + 1) 28 (.int .i64 18)
  mks : Marks z V pb ds
  o : ∀ b, O b → pb < b
  pz : pb < V.heap.size
  zp : z + 1 + 1 < pb
theorem VrX.rely {w : World} {z pb : Nat} {ds : List Deferred} {O O' : Nat → Prop} {V V' : World} {Bz : Nat}
    (h : VrX w z pb ds O V) (hz : w.heap.size = z) (hB : pb < Bz) (hC : OffC Bz O V V') (hG : Grow O O' V V') : VrX w z pb ds O' V' := by
  have hzp := h.zp
  have hpz := h.pz
  have no : ∀ b, b ≤ pb → ¬ O b := fun b hb ho => by have := h.o b ho; omega
  refine ⟨h.ext.offc hC (by omega) (fun b hb => by have := h.o b hb; omega), hC.cells _ _ _ _ h.rb (no _ (by omega)), h.mks.of_heap (fun b _ hb hh => hC.low b (by omega) (lt_of_heap hh) (no _ (by omega))), fun b hb => ?_, ?_, hzp⟩
  · rcases (hG b hb).1 with h1 | h1
    · exact h.o b h1
    · omega
  · have := hC.size; omega

set_option maxRecDepth 16000 in
set_option maxHeartbeats 4000000 in
theorem verify_any (A B : Adv) (prs : List (Int × Int)) (u v pv : Value) (w : World) (hA : AdvRep w u A) (hB : AdvRep w v B) (hP : Row pcells 2 w pv prs) (hmA : movesN A ≤ 4611686018427387904) (hmB : movesN B ≤ 4611686018427387904) :
    Calls Try.prog 20 #[u, v, pv] w fun e w' => e = .returned (.int .i64 (verS A B prs)) ∧ Ext w w' := by
  have HA := hide hA
  have HB := hide hB
  obtain ⟨p, c, rfl, -, -, hatA⟩ := hA.all_
  obtain ⟨q, d, rfl, -, -, hatB⟩ := hB.all_
  obtain ⟨ps, k, rfl, hpk, hpl, hpat⟩ := hP.pr_all
  have HATA := hide hatA
  have HATB := hide hatB
  have HPAT := hide hpat
  have HPK := hide hpk
  have HPL := hide hpl
  clear hA hB hP hatA hatB hpat hpk hpl
  have HN := hide (TwoBox.new A B p c q d w)
  have HE1 := hide (((Ext.refl w).alloc (.cells #[.int .i64 A.n, .slice p A.L c] 24)).alloc (.cells #[.int .i64 B.n, .slice q B.L d] 24))
  have hz0 : ((w.alloc (.cells #[.int .i64 A.n, .slice p A.L c] 24)).alloc (.cells #[.int .i64 B.n, .slice q B.L d] 24)).heap.size = w.heap.size + 2 := by simp
  obtain ⟨W0, hW0⟩ : ∃ W0, (w.alloc (.cells #[.int .i64 A.n, .slice p A.L c] 24)).alloc (.cells #[.int .i64 B.n, .slice q B.L d] 24) = W0 := ⟨_, rfl⟩
  rw [hW0] at HN HE1 hz0
  have HR1 := hide (Box.new W0 28 (.int .i64 0))
  have HN1 := hide (HN.out.ext ((Ext.refl W0).alloc (.cells #[.int .i64 0] 28)))
  have HE2 := hide (HE1.out.alloc (.cells #[.int .i64 0] 28))
  rw [hz0, show w.heap.size + 2 = w.heap.size + 1 + 1 from rfl] at HR1
  obtain ⟨W1, hW1⟩ : ∃ W1, W0.alloc (.cells #[.int .i64 0] 28) = W1 := ⟨_, rfl⟩
  rw [hW1] at HR1 HN1 HE2
  have HW1 : Hid (((w.alloc (.cells #[.int .i64 A.n, .slice p A.L c] 24)).alloc (.cells #[.int .i64 B.n, .slice q B.L d] 24)).alloc (.cells #[.int .i64 0] 28) = W1) := by
    show _ = _
    rw [hW0, hW1]
  clear HN HE1 hz0 hW0 hW1
  refine calls_of_wp_m Try.func20 rfl ?_
  simp only [Try.ntmps20, List.size_toArray, List.length_cons, List.length_nil, Nat.reduceAdd, Nat.reduceSub, Array.replicate_succ, Array.replicate_zero, List.push_toArray, List.append_toArray, List.nil_append, List.cons_append]
  obtain ⟨z, hz⟩ : ∃ z, w.heap.size = z := ⟨_, rfl⟩
  have HZ := hide hz
  rw [hz] at HR1 HN1
  go_wp2_with fail
  rw [HW1.out]
  refine (both_any A B _ _ W1 (HA.out.ext HE2.out) (HB.out.ext HE2.out) hmA hmB).mono ?_
  rintro e w2 ⟨rfl, hE2⟩
  clear hz
  have HN2 := hide (HN1.out.ext hE2)
  have HR2 := hide (HR1.out.ext hE2)
  have HE3 := hide (HE2.out.trans hE2)
  clear hE2 HN1 HE2 HW1 HR1 W0 W1
  have r0 := HR2.out.cell
  have rf := HR2.out.frozen
  have rz := HR2.out.lt
  by_cases hb : bothI A B = 0
  case neg =>
    have hd : (bothI A B != 0) = true := by simp [hb]
    have HR : Hid (verS A B prs = bothI A B) := verS_err hb
    clear hb
    generalize bothI A B = res at hd HR ⊢
    go_wp2_with fail
    have hbx : Box (w2.setCell ⟨z + 1 + 1, 0, none⟩ (.int .i64 res)) (z + 1 + 1) 28 (.int .i64 res) := HR2.out.set
    refine leave_marks (B := z) [] 0 _ trivial (v := .int .i64 res) (fun W' hc => ?_) fun W' hc => ?_
    · have r1 := (hbx.chg hc).cell
      simp [results, go_sem, r1]
    · exact ⟨by rw [HR.out], (HE3.out.setCell (p := ⟨z + 1 + 1, 0, none⟩) (by show w.heap.size ≤ z + 1 + 1; have := HZ.out; omega) _).chg hc (by have := HZ.out; omega)⟩
  case pos =>
  have HB0 := hide hb
  rw [hb]
  clear hb
  by_cases hl : 65536 < prs.length
  · have hd : decide ((65536 : Int) < (prs.length : Int)) = true := decide_eq_true (by omega)
    have HR : Hid (verS A B prs = 5) := verS_many HB0.out hl
    clear hl
    go_wp2_with fail
    have hbx : Box (w2.setCell ⟨z + 1 + 1, 0, none⟩ (.int .i64 5)) (z + 1 + 1) 28 (.int .i64 5) := HR2.out.set
    refine leave_marks (B := z) [] 0 _ trivial (v := .int .i64 5) (fun W' hc => ?_) fun W' hc => ?_
    · have r1 := (hbx.chg hc).cell
      simp [results, go_sem, r1]
    · exact ⟨by rw [HR.out], (HE3.out.setCell (p := ⟨z + 1 + 1, 0, none⟩) (by show w.heap.size ≤ z + 1 + 1; have := HZ.out; omega) _).chg hc (by have := HZ.out; omega)⟩
  have hd : decide ((65536 : Int) < (prs.length : Int)) = false := decide_eq_false (by omega)
  have HL := hide hl
  have hl5 : prs.length ≤ 65536 := by omega
  have hmm := @run_makeMap Try.prog
  have hks := KS.new penc w2
  have HKS := hide hks
  clear hks hl
  go_wp2_with fail
  obtain ⟨m, hm⟩ : ∃ m, w2.heap.size = m := ⟨_, rfl⟩
  have HV0 : Hid (VrW A B w z p c q d m ((w2.alloc (.map #[] 0)).alloc (.cells #[.map (some w2.heap.size)] 85)) ∧ KS penc ((w2.alloc (.map #[] 0)).alloc (.cells #[.map (some w2.heap.size)] 85)) m []) := by
    have hE := ((Ext.refl w2).alloc (.map #[] 0)).alloc (.cells #[.map (some w2.heap.size)] 85)
    have hN := HN2.out.ext hE
    have hbx := Box.new (w2.alloc (.map #[] 0)) 85 (.map (some w2.heap.size))
    rw [World.size_alloc, hm] at hbx
    rw [hm] at hE hN ⊢
    exact ⟨⟨HE3.out.trans hE, hN.a, hN.b, HR2.out.ext hE, hbx, by rw [← hm]; exact rz⟩, by have := HKS.out.ext ((Ext.refl _).alloc (.cells #[.map (some m)] 85)); rw [hm] at this; exact this⟩
  rw [hm]
  rw [hm] at HV0
  clear hm HKS hmm r0 rf rz HR2 HN2 hd
  generalize (w2.alloc (.map #[] 0)).alloc (.cells #[.map (some m)] 85) = W4 at HV0 ⊢
  have hub : ∀ W, (underlying 85).run Try.prog W = .ok (.map 45 4) W := fun W => by kernel_rfl
  have HUB := hide hub
  clear hub
  go_loopw [25] (fun v wr => ∃ i : Nat, i ≤ prs.length ∧ v = .int .i64 i ∧ Hid (VrW A B w z p c q d m wr) ∧ Hid (KS penc wr m (knL (prs.take i))) ∧ Hid (∀ p ∈ prs.take i, inbB A B p = true)) (fun v _ => prs.length - (intOf v).toNat)
  case atStart => exact ⟨0, by omega, rfl, HV0.out.1, HV0.out.2, fun p h => by simp at h⟩
  case round =>
    obtain ⟨i, hi, rfl, HV, HK, HI⟩ := hrel
    clear HV0 HE3
    have v0 := dcell HV.out.ab 1
    have vz := lt_of_heap HV.out.ab
    have v1 := dcell HV.out.bb 1
    have vz1 := lt_of_heap HV.out.bb
    have r0 := HV.out.rb.cell
    have rf := HV.out.rb.frozen
    have rz := HV.out.rb.lt
    have m0 := HV.out.mb.cell
    have mz := HV.out.mb.lt
    have mk := HK.out.lt
    by_cases hlt : i < prs.length
    · obtain ⟨pb, po, rfl, hpz, hpc⟩ := HPAT.out (by omega)
      obtain ⟨c0, c1⟩ := hpc i hlt wr HV.out.ext
      have pz : pb < wr.heap.size := Nat.lt_of_lt_of_le hpz HV.out.ext.size
      have hmem : prs.getD i default ∈ prs := by rw [List.getD_eq_getElem?_getD, List.getElem?_eq_getElem hlt]; exact List.getElem_mem hlt
      have htk : prs.take (i + 1) = prs.take i ++ [prs.getD i default] := by rw [List.take_add_one, List.getD_eq_getElem?_getD, List.getElem?_eq_getElem hlt]; rfl
      have HMEM := hide hmem
      have HTK := hide htk
      have HBX := hide (heap_alloc_new wr (.cells #[.int .i64 (prs.getD i default).1, .int .i64 (prs.getD i default).2] 45))
      clear hpc hpz hmem htk
      have HINB : Hid (inbB A B (prs.getD i default) = decide (0 ≤ (prs.getD i default).1 ∧ (prs.getD i default).1 < B.L ∧ 0 ≤ (prs.getD i default).2 ∧ (prs.getD i default).2 < A.L)) := rfl
      obtain ⟨P, hP⟩ : ∃ P, prs.getD i default = P := ⟨_, rfl⟩
      rw [hP] at c0 c1 HMEM HTK HBX HINB
      clear hP
      obtain ⟨x, y⟩ := P
      dsimp only at c0 c1 HBX HINB
      have HRG0 : Hid (inbB A B (x, y) = false → verS A B prs = 2) := fun h => verS_range HB0.out HL.out HMEM.out h
      by_cases hx0 : x < 0
      · have d0 : decide (x < 0) = true := decide_eq_true hx0
        have HRG := hide (HRG0.out (by rw [HINB.out]; exact decide_eq_false (by omega)))
        clear hx0 HBX HINB
        go_wp2_with fail
        have hbx : Box ((wr.setCell ⟨z + 1 + 1, 0, none⟩ (.int .i64 2)).alloc (.cells #[.int .i64 x, .int .i64 y] 45)) (z + 1 + 1) 28 (.int .i64 2) := HV.out.rb.set.alloc _
        refine leave_marks (B := z) [] 0 _ trivial (v := .int .i64 2) (fun W' hc => ?_) fun W' hc => ?_
        · have r1 := (hbx.chg hc).cell
          simp [results, go_sem, r1]
        · exact ⟨by rw [HRG.out], ((HV.out.ext.setCell (p := ⟨z + 1 + 1, 0, none⟩) (by show w.heap.size ≤ z + 1 + 1; have := HZ.out; omega) _).alloc _).chg hc (by have := HZ.out; omega)⟩
      have d0 : decide (x < 0) = false := decide_eq_false hx0
      by_cases hx1 : (B.L : Int) ≤ x
      · have d1 : decide ((B.L : Int) ≤ x) = true := decide_eq_true hx1
        have HRG := hide (HRG0.out (by rw [HINB.out]; exact decide_eq_false (by omega)))
        clear hx0 hx1 HBX HINB
        go_wp2_with fail
        have hbx : Box ((wr.setCell ⟨z + 1 + 1, 0, none⟩ (.int .i64 2)).alloc (.cells #[.int .i64 x, .int .i64 y] 45)) (z + 1 + 1) 28 (.int .i64 2) := HV.out.rb.set.alloc _
        refine leave_marks (B := z) [] 0 _ trivial (v := .int .i64 2) (fun W' hc => ?_) fun W' hc => ?_
        · have r1 := (hbx.chg hc).cell
          simp [results, go_sem, r1]
        · exact ⟨by rw [HRG.out], ((HV.out.ext.setCell (p := ⟨z + 1 + 1, 0, none⟩) (by show w.heap.size ≤ z + 1 + 1; have := HZ.out; omega) _).alloc _).chg hc (by have := HZ.out; omega)⟩
      have d1 : decide ((B.L : Int) ≤ x) = false := decide_eq_false hx1
      by_cases hy0 : y < 0
      · have d2 : decide (y < 0) = true := decide_eq_true hy0
        have HRG := hide (HRG0.out (by rw [HINB.out]; exact decide_eq_false (by omega)))
        clear hx0 hx1 hy0 HBX HINB
        go_wp2_with fail
        have hbx : Box ((wr.setCell ⟨z + 1 + 1, 0, none⟩ (.int .i64 2)).alloc (.cells #[.int .i64 x, .int .i64 y] 45)) (z + 1 + 1) 28 (.int .i64 2) := HV.out.rb.set.alloc _
        refine leave_marks (B := z) [] 0 _ trivial (v := .int .i64 2) (fun W' hc => ?_) fun W' hc => ?_
        · have r1 := (hbx.chg hc).cell
          simp [results, go_sem, r1]
        · exact ⟨by rw [HRG.out], ((HV.out.ext.setCell (p := ⟨z + 1 + 1, 0, none⟩) (by show w.heap.size ≤ z + 1 + 1; have := HZ.out; omega) _).alloc _).chg hc (by have := HZ.out; omega)⟩
      have d2 : decide (y < 0) = false := decide_eq_false hy0
      by_cases hy1 : (A.L : Int) ≤ y
      · have d3 : decide ((A.L : Int) ≤ y) = true := decide_eq_true hy1
        have HRG := hide (HRG0.out (by rw [HINB.out]; exact decide_eq_false (by omega)))
        clear hx0 hx1 hy0 hy1 HBX HINB
        go_wp2_with fail
        have hbx : Box ((wr.setCell ⟨z + 1 + 1, 0, none⟩ (.int .i64 2)).alloc (.cells #[.int .i64 x, .int .i64 y] 45)) (z + 1 + 1) 28 (.int .i64 2) := HV.out.rb.set.alloc _
        refine leave_marks (B := z) [] 0 _ trivial (v := .int .i64 2) (fun W' hc => ?_) fun W' hc => ?_
        · have r1 := (hbx.chg hc).cell
          simp [results, go_sem, r1]
        · exact ⟨by rw [HRG.out], ((HV.out.ext.setCell (p := ⟨z + 1 + 1, 0, none⟩) (by show w.heap.size ≤ z + 1 + 1; have := HZ.out; omega) _).alloc _).chg hc (by have := HZ.out; omega)⟩
      have d3 : decide ((A.L : Int) ≤ y) = false := decide_eq_false hy1
      have HIN : Hid (inbB A B (x, y) = true) := by
        show _ = _
        rw [HINB.out]; exact decide_eq_true (by omega)
      obtain ⟨ob, ⟨es, cl, rfl⟩, hput, hks⟩ := (HK.out.ext ((Ext.refl wr).alloc (.cells #[.int .i64 x, .int .i64 y] 45))).put pkey_ok HUB.out (x, y) (.bool true)
      rw [← knL_snoc, ← HTK.out] at hks
      unfold penc at hput
      have HKS := hide hks
      clear hx0 hx1 hy0 hy1 hks HBX HINB
      go_wp2_with fail
      have hE := (Ext.refl wr).alloc (.cells #[.int .i64 x, .int .i64 y] 45)
      have hbig := HV.out.big
      go_roundw
      case rel =>
        refine ⟨i + 1, by omega, by go_num, ?_, HKS.out, fun p hp => ?_⟩
        · exact (HV.out.mono hE).of ((HV.out.ext.trans hE).putObj (by have := HZ.out; omega) _) fun b hb => World.putObj_heap_other (by omega)
        · rw [HTK.out] at hp
          rcases List.mem_append.1 hp with hp | hp
          · exact HI.out p hp
          · rw [List.mem_singleton.1 hp]; exact HIN.out
      case measure => simp [intOf]; omega
    · obtain rfl : i = prs.length := by omega
      have htk : prs.take prs.length = prs := List.take_length
      have HK1 : Hid (KS penc wr m (knL prs)) := by have := HK.out; rwa [htk] at this
      have HI1 : Hid (∀ p ∈ prs, inbB A B p = true) := by have := HI.out; rwa [htk] at this
      clear htk HK HI hi hlt
      have hbz : ∀ W, (zeroValue 4).run Try.prog W = .ok (.bool false) W := fun W => by kernel_rfl
      have hlook := HK1.out.km.look pkey_ok HUB.out hbz (0, 0)
      rw [knL_get] at hlook
      unfold penc at hlook
      clear hbz
      by_cases h0 : ((0 : Int), (0 : Int)) ∈ prs
      case neg =>
        rw [decide_eq_false h0] at hlook
        have HR := hide (verS_start HB0.out HL.out HI1.out h0)
        clear h0
        go_wp2_with fail
        have hbx : Box (wr.setCell ⟨z + 1 + 1, 0, none⟩ (.int .i64 18)) (z + 1 + 1) 28 (.int .i64 18) := HV.out.rb.set
        refine leave_marks (B := z) [] 0 _ trivial (v := .int .i64 18) (fun W' hc => ?_) fun W' hc => ?_
        · have r1 := (hbx.chg hc).cell
          simp [results, go_sem, r1]
        · exact ⟨by rw [HR.out], (HV.out.ext.setCell (p := ⟨z + 1 + 1, 0, none⟩) (by show w.heap.size ≤ z + 1 + 1; have := HZ.out; omega) _).chg hc (by have := HZ.out; omega)⟩
      case pos =>
      rw [decide_eq_true h0] at hlook
      have H0 := hide h0
      clear h0
      go_wp2_with (first | (at_range; refine wpList_range_k _ rfl _ _ rfl 45 4 Try.underlying85 m (knL prs) rfl HK1.out ?_; intro w5 hkr hE5 hs5; have HKR := hide hkr; have HE5 := hide hE5; have HS5 := hide hs5; clear hkr hE5 hs5) | go_in)
      have HVW := hide (HV.out.mono HE5.out)
      have HV5 : Hid (VrW A B w z p c q d m w5) := HVW.out
      clear hlook v0 vz v1 vz1 r0 rf rz m0 mz mk
      obtain ⟨r, hr⟩ : ∃ r, wr.heap.size = r := ⟨_, rfl⟩
      rw [hr] at HKR
      rw [hr]
      have HMR : Hid (m + 1 < r) := by have := HV.out.mb.lt; show _ < _; omega
      clear hr HK1 HE5 HS5 HV HVW
      refine wp_loop_ghost_k (VrI A B prs w z p c q d m r) (knL prs).length ?_ ?_
      · exact VrI.intro rfl rfl HV5.out HKR.out (fun x hx => .inl hx) (fun x hx => hx) trivial
      clear HV5 HKR
      clear wr w5
      rintro n a wr ⟨ds, us, left, rfl, hn, hV, hK, hF, hI, hM⟩ J KK hJ hKK
      have HJ := hide hJ
      have HN := hide hn
      have HM := hide hM
      have HV := hide hV
      have HK := hide hK
      have HF := hide hF
      have HI := hide hI
      clear hJ hn hM hV hK hF hI
      dsimp only [vrF]
      have r0 := HV.out.rb.cell
      have rf := HV.out.rb.frozen
      have rz := HV.out.rb.lt
      go_wp2_with (first | (at_next; refine wpList_next_k _ rfl _ rfl m r (knL prs) left rfl HK.out ?_ ?_) | go_in)
      · intro hdone
        have HR : Hid (verS A B prs = 0) := by
          refine verS_ok HB0.out HL.out HI1.out H0.out fun x hx => ?_
          obtain ⟨e, he, rfl⟩ := knL_mem.2 hx
          rcases HF.out e he with h | h
          · rw [hdone] at h; cases h
          · exact h
        clear hdone
        go_wp2_with fail
        have hbx : Box (wr.setCell ⟨z + 1 + 1, 0, none⟩ (.int .i64 0)) (z + 1 + 1) 28 (.int .i64 0) := HV.out.rb.set
        have mk : Marks z (wr.setCell ⟨z + 1 + 1, 0, none⟩ (.int .i64 0)) wr.heap.size ds := HM.out.of_heap (fun b _ _ hh => Below.heap_setCell _ _ _ _ fun e => by
          have hk1 := HV.out.rb
          unfold Box at hk1
          subst e
          rw [show (⟨z + 1 + 1, 0, none⟩ : Addr).block = z + 1 + 1 from rfl, hk1] at hh; cases hh)
        refine leave_marks _ _ _ mk (v := .int .i64 0) (fun W' hc => ?_) fun W' hc => ?_
        · have r1 := (hbx.chg hc).cell
          simp [results, go_sem, r1]
        · exact ⟨by rw [HR.out], (HV.out.ext.setCell (p := ⟨z + 1 + 1, 0, none⟩) (by show w.heap.size ≤ z + 1 + 1; have := HZ.out; omega) _).chg hc (by have := HZ.out; omega)⟩
      intro lu sp tq xv lc w1 hl hkr hgr hsz hen
      unfold penc at hen ⊢
      have hxm : ((sp, tq), xv) ∈ knL prs := HI.out _ (by rw [hl]; simp)
      have hxp : (sp, tq) ∈ prs := knL_mem.1 ⟨_, hxm, rfl⟩
      have hin := HI1.out _ hxp
      unfold inbB at hin
      rw [decide_eq_true_eq] at hin
      obtain ⟨hsp0, hsp1, htq0, htq1⟩ := hin
      obtain ⟨s, rfl⟩ := Int.eq_ofNat_of_zero_le hsp0
      obtain ⟨t, rfl⟩ := Int.eq_ofNat_of_zero_le htq0
      have HL0 := hide hl
      have HKR := hide hkr
      have HXP := hide hxp
      have HSZ1 := hide hsz
      have HV1 : Hid (VrW A B w z p c q d m w1) := by
        have hbig := HV.out.big
        have hmr := HMR.out
        have hzw := HZ.out
        exact HV.out.of (HV.out.ext.grown hgr (fun k hk => by injection hk with hk; omega)) fun b hb => hgr.block _ (by have := HV.out.mb.lt; omega) (fun e => by injection e with e; omega)
      have HM1 : Hid (Marks z w1 w1.heap.size ds) := by
        show Marks _ _ _ _
        rw [hsz]
        refine HM.out.of_heap fun b _ hb hh => hgr.block _ hb (fun e => ?_)
        injection e with e
        subst e
        obtain ⟨_, _, _, _, _, _, _, _, h4, _⟩ := HK.out
        rw [h4] at hh
        cases hh
      have hls : s < B.L := by omega
      have hlt : t < A.L := by omega
      clear hl hkr hxp hxm hgr hsz HK HV HM r0 rf rz hsp0 htq0
      go_upto_region 19 with fail
      have hE := (Ext.refl w1).alloc (.cells #[.int .i64 s, .int .i64 t] 45)
      have HWP := hide (HV1.out.mono hE)
      have HKP := hide (HKR.out.ext hE)
      have HMP : Hid (Marks z (w1.alloc (.cells #[.int .i64 s, .int .i64 t] 45)) w1.heap.size ds) := HM1.out.of_heap (fun b _ hb _ => hE.b.block b hb)
      have HPB : Hid ((w1.alloc (.cells #[.int .i64 s, .int .i64 t] 45)).heap[w1.heap.size]? = some (.cells #[.int .i64 s, .int .i64 t] 45 (0, 0))) := heap_alloc_new w1 _
      have HSZ : Hid (w1.heap.size < (w1.alloc (.cells #[.int .i64 s, .int .i64 t] 45)).heap.size) := by show _ < _; simp
      have HPR : Hid (r < w1.heap.size) := HKR.out.lt
      have HPM : Hid (m + 1 < w1.heap.size) := HV1.out.mb.lt
      clear hE hen
      generalize w1.alloc (.cells #[.int .i64 s, .int .i64 t] 45) = Wp at HWP HKP HMP HPB HSZ ⊢
      obtain ⟨pb, hpb⟩ : ∃ pb, w1.heap.size = pb := ⟨_, rfl⟩
      rw [hpb] at HPB HSZ HMP HPR HPM
      rw [hpb]
      clear hpb HM1 HKR HV1 HSZ1
      have hlA : (t : Int) < (A.L : Int) := by omega
      have hlB : (s : Int) < (B.L : Int) := by omega
      obtain ⟨ba, oa, rfl, hba, hsa⟩ := HATA.out (by omega)
      obtain ⟨qa, da, hca, -, -, hra, -⟩ := hsa t hlt
      obtain ⟨bb, ob, rfl, hbb, hsb⟩ := HATB.out (by omega)
      obtain ⟨qb, db, hcb, -, -, hrb, -⟩ := hsb s hls
      have HCA := hide hca
      have HCB := hide hcb
      have HRA := hide hra
      have HRB := hide hrb
      clear hsa hsb hca hcb hra hrb
      refine wp_region_heldB (fun Z => Ext Wp Z) (fun _ => false) (by kernel_rfl) ?_
      intro Z8 hZ8
      have hSd : Ext Wp Z8 := by rw [hZ8]; exact (Ext.refl _).drew
      clear hZ8
      refine wpAnyT_takeB (i := 0) (.pointer (some ⟨z + 1, 1, none⟩)) rfl (by kernel_rfl) (fun j hj => by cases hj) (by kernel_rfl) (by kernel_rfl) (by simp [Region.wanted]) (fun Z hZ => by
        go_simp) hSd ?_
      try simp only [Act.put, List.getElem_toArray, List.setIfInBounds_toArray]
      refine wpAnyT_takeB (i := 1) (.slice (some ⟨bb, ob, none⟩) B.L d) rfl (by kernel_rfl) (fun j hj => by cases hj) (by kernel_rfl) (by kernel_rfl) (by simp [Region.wanted]) (fun Z hZ => by
        have x1 := dcell ((hZ.b.block _ (lt_of_heap HWP.out.bb)).trans HWP.out.bb) 1
        have xz := lt_of_heap ((hZ.b.block _ (lt_of_heap HWP.out.bb)).trans HWP.out.bb)
        go_simp) hSd ?_
      try simp only [Act.put, List.getElem_toArray]
      refine wpAnyT_takeB (i := 2) (.pointer (some ⟨pb, 0, none⟩)) rfl (by kernel_rfl) (fun j hj => by cases hj) (by kernel_rfl) (by kernel_rfl) (by simp [Region.wanted]) (fun Z hZ => by
        go_simp) hSd ?_
      try simp only [Act.put, List.getElem_toArray]
      refine wpAnyT_takeB (i := 3) (.int .i64 s) rfl (by kernel_rfl) (fun j hj => by cases hj) (by kernel_rfl) (by kernel_rfl) (by simp [Region.wanted]) (fun Z hZ => by
        have x0 := dcell ((hZ.b.block _ (lt_of_heap HPB.out)).trans HPB.out) 0
        have xz := lt_of_heap ((hZ.b.block _ (lt_of_heap HPB.out)).trans HPB.out)
        go_simp) hSd ?_
      try simp only [Act.put, List.getElem_toArray]
      refine wpAnyT_takeB (i := 4) (.pointer (some ⟨bb, ob + s, none⟩)) rfl (by kernel_rfl) (fun j hj => by cases hj) (by kernel_rfl) (by kernel_rfl) (by simp [Region.wanted]) (fun Z hZ => by
        go_simp) hSd ?_
      try simp only [Act.put, List.getElem_toArray]
      refine wpAnyT_takeB (i := 5) (.slice qb (B.len s) db) rfl (by kernel_rfl) (fun j hj => by cases hj) (by kernel_rfl) (by kernel_rfl) (by simp [Region.wanted]) (fun Z hZ => by
        have x0 := HCB.out Z (HWP.out.ext.trans hZ)
        have xz : bb < Z.heap.size := Nat.lt_of_lt_of_le hbb (HWP.out.ext.trans hZ).size
        go_simp) hSd ?_
      try simp only [Act.put, List.getElem_toArray]
      refine wpAnyT_takeB (i := 6) (.pointer (some ⟨z, 1, none⟩)) rfl (by kernel_rfl) (fun j hj => by cases hj) (by kernel_rfl) (by kernel_rfl) (by simp [Region.wanted]) (fun Z hZ => by
        go_simp) hSd ?_
      try simp only [Act.put, List.getElem_toArray]
      refine wpAnyT_takeB (i := 7) (.slice (some ⟨ba, oa, none⟩) A.L c) rfl (by kernel_rfl) (fun j hj => by cases hj) (by kernel_rfl) (by kernel_rfl) (by simp [Region.wanted]) (fun Z hZ => by
        have x1 := dcell ((hZ.b.block _ (lt_of_heap HWP.out.ab)).trans HWP.out.ab) 1
        have xz := lt_of_heap ((hZ.b.block _ (lt_of_heap HWP.out.ab)).trans HWP.out.ab)
        go_simp) hSd ?_
      try simp only [Act.put, List.getElem_toArray]
      refine wpAnyT_takeB (i := 8) (.pointer (some ⟨pb, 1, none⟩)) rfl (by kernel_rfl) (fun j hj => by cases hj) (by kernel_rfl) (by kernel_rfl) (by simp [Region.wanted]) (fun Z hZ => by
        go_simp) hSd ?_
      try simp only [Act.put, List.getElem_toArray]
      refine wpAnyT_takeB (i := 9) (.int .i64 t) rfl (by kernel_rfl) (fun j hj => by cases hj) (by kernel_rfl) (by kernel_rfl) (by simp [Region.wanted]) (fun Z hZ => by
        have x0 := dcell ((hZ.b.block _ (lt_of_heap HPB.out)).trans HPB.out) 1
        have xz := lt_of_heap ((hZ.b.block _ (lt_of_heap HPB.out)).trans HPB.out)
        go_simp) hSd ?_
      try simp only [Act.put, List.getElem_toArray]
      refine wpAnyT_takeB (i := 10) (.pointer (some ⟨ba, oa + t, none⟩)) rfl (by kernel_rfl) (fun j hj => by cases hj) (by kernel_rfl) (by kernel_rfl) (by simp [Region.wanted]) (fun Z hZ => by
        go_simp) hSd ?_
      try simp only [Act.put, List.getElem_toArray]
      refine wpAnyT_takeB (i := 11) (.slice qa (A.len t) da) rfl (by kernel_rfl) (fun j hj => by cases hj) (by kernel_rfl) (by kernel_rfl) (by simp [Region.wanted]) (fun Z hZ => by
        have x0 := HCA.out Z (HWP.out.ext.trans hZ)
        have xz : ba < Z.heap.size := Nat.lt_of_lt_of_le hba (HWP.out.ext.trans hZ).size
        go_simp) hSd ?_
      try simp only [Act.put, List.getElem_toArray]
      refine wpAnyT_oneB (i := 12) rfl (by kernel_rfl) (fun KK' hKK' => ?_)
      go_wp2_with fail
      refine (steps_any _ _ ⟨_, _, _, rfl⟩ ⟨_, _, _, rfl⟩ Z8).mono ?_
      rintro e W9 ⟨rfl, hW9⟩
      have hE9 : Ext Z8 W9 := by rw [hW9]; exact ((Ext.refl _).alloc _).alloc _
      have hx9 : MBox W9 Z8.heap.size (.slice qb (B.len s) db) := by rw [hW9]; exact (Below.heap_alloc _ _ _ (by simp)).trans (heap_alloc_new Z8 _)
      have hy9 : MBox W9 (Z8.heap.size + 1) (.slice qa (A.len t) da) := by
        rw [hW9]
        have := heap_alloc_new (Z8.alloc (.cells #[.slice qb (B.len s) db] 89)) (.cells #[.slice qa (A.len t) da] 89)
        rwa [World.size_alloc] at this
      clear hW9
      go_wp2_with fail
      refine ⟨rfl, hKK' _ _ (fun _ => hSd.trans hE9) ?_⟩
      clear hKK' KK'
      refine wpAnyT_done (by kernel_rfl) ?_ _
      have HX9 := hide hx9
      have HY9 := hide hy9
      have HGP : Hid (Wp.heap.size ≤ Z8.heap.size) := hSd.size
      have hE10 := hSd.trans hE9
      have HW9 := hide (HWP.out.mono hE10)
      have HK9 := hide (HKP.out.ext hE10)
      have HM9 := hide (HMP.out.of_heap (fun b _ hb _ => hE10.b.block b (by have := HSZ.out; omega)))
      have HZ9 := hide hE10.size
      clear hSd hE9 hE10 hx9 hy9 HWP HKP HMP HPB
      obtain ⟨g, hg⟩ : ∃ g, Z8.heap.size = g := ⟨_, rfl⟩
      rw [hg] at HX9 HY9 HGP
      rw [hg]
      clear hg Z8
      go_wp2_with fail
      have HSEQ := hide (steps_seq (B.st.getD s []) (A.st.getD t []) g (.slice qb (B.len s) db) (.slice qa (A.len t) da))
      have HFOL := hide (fol_merge (bothI_zero HB0.out).1 (bothI_zero HB0.out).2.1 prs ((s : Int), (t : Int)))
      simp only [Int.toNat_natCast] at HFOL
      obtain ⟨L, hL⟩ : ∃ L, mergeS (B.st.getD s []) (A.st.getD t []) = L := ⟨_, rfl⟩
      rw [hL] at HSEQ HFOL
      have HZW : Hid (w.heap.size = z) := HZ
      have hpz : pb < W9.heap.size := by have := HSZ.out; have := HZ9.out; omega
      have hgp : pb < g := by have := HSZ.out; have := HGP.out; omega
      have hpr : r < pb := HPR.out
      have hpm : m + 1 < pb := HPM.out
      clear hL
      refine wp_rangeX (n := L.length) rfl (fun _ _ => rfl) HSEQ.out (fun i O x V hi hX => by obtain ⟨e, _, rfl⟩ := hX; rfl)
        (fun j O V => VrJ A B prs w z (some ⟨ba, oa, none⟩) c (some ⟨bb, ob, none⟩) d m r pb (lu ++ lc) ds L j O V)
        (fun c O V => c = .ret ∧ (∃ e ∈ L, brk prs e = true) ∧ VrX w z pb ds O V) ?_ ?_ ?_ ?_ ?_ ?_ ?_ ?_ ?_
      · intro j O V h
        exact ⟨HRB.out.ext h.w.ext, HRA.out.ext h.w.ext⟩
      · intro j O O' V V' h hC hG
        exact h.rely HZW.out hpz hC hG
      · rintro c O O' V V' ⟨rfl, he, h⟩ hC hG
        exact ⟨rfl, he, h.rely HZW.out hpz hC hG⟩
      · intro V hE
        exact ⟨(hE.b.block _ (lt_of_heap HX9.out)).trans HX9.out, (hE.b.block _ (lt_of_heap HY9.out)).trans HY9.out⟩
      · rintro b (rfl | rfl)
        · exact lt_of_heap HX9.out
        · exact lt_of_heap HY9.out
      · exact ⟨HW9.out, HK9.out, fun e h => by simp at h, HM9.out, fun b hb => by rcases hb with rfl | rfl <;> omega, hpz, hpm, hpr⟩
      · rintro lp j x O V hj ⟨e, he, rfl⟩ hS hOV hlp hlV
        have hE1 := (Ext.refl V).alloc (.cells #[.int .i64 e.r.g.n, .int .i64 e.r.g.h0, .int .i64 e.r.g.h1, .int .i64 e.r.g.h2, .int .i64 e.r.g.h3, .int .i64 e.r.g.h4, .int .i64 e.r.f, .int .i64 e.x, .int .i64 e.y] 83)
        have HS1 := hide (hS.rely HZW.out hpz (OffC.of_off (Off.of_ext hE1)) (Grow.same hOV hE1.size))
        have HSB1 := hide (heap_alloc_new V (.cells #[.int .i64 e.r.g.n, .int .i64 e.r.g.h0, .int .i64 e.r.g.h1, .int .i64 e.r.g.h2, .int .i64 e.r.g.h3, .int .i64 e.r.g.h4, .int .i64 e.r.f, .int .i64 e.x, .int .i64 e.y] 83))
        have HOV1 : Hid (∀ b, O b → b < (V.alloc (.cells #[.int .i64 e.r.g.n, .int .i64 e.r.g.h0, .int .i64 e.r.g.h1, .int .i64 e.r.g.h2, .int .i64 e.r.g.h3, .int .i64 e.r.g.h4, .int .i64 e.r.f, .int .i64 e.x, .int .i64 e.y] 83)).heap.size) := fun b hb => Nat.lt_of_lt_of_le (hOV b hb) hE1.size
        have HEM : Hid (e ∈ L) := List.mem_of_getElem? he
        have HTK : Hid (L.take (j + 1) = L.take j ++ [e]) := by
          show _ = _
          rw [List.take_add_one, he]; rfl
        have HVZ : Hid (¬ O V.heap.size) := fun h => Nat.lt_irrefl _ (hOV _ h)
        clear hE1 hS hlp hlV he hj
        gi_wp2_with fail
        refine ⟨KFO.of_ext ((Ext.refl _).alloc _) hOV, fun W2 hC hKO => ?_⟩
        have HS2 := hide (HS1.out.rely HZW.out hpz (OffC.of_chg hC) (Grow.same HOV1.out hC.size))
        have HSB2 := hide (hC.cells _ _ _ _ HSB1.out)
        have HOV2 : Hid (∀ b, O b → b < W2.heap.size) := fun b hb => Nat.lt_of_lt_of_le (HOV1.out b hb) hC.size
        have HK2 : Hid (KFO W9.heap.size O W2 W2) := KFO.of_ext (Ext.refl _) HOV2.out
        clear hC hKO HS1 HSB1 HOV1 hOV
        obtain ⟨sb, hsb⟩ : ∃ sb, V.heap.size = sb := ⟨_, rfl⟩
        rw [hsb] at HSB2 HVZ
        rw [hsb]
        clear hsb V
        have c7 := dcell HSB2.out 7
        have c8 := dcell HSB2.out 8
        have sz := lt_of_heap HSB2.out
        have m0 := HS2.out.w.mb.cell
        have mz := HS2.out.w.mb.lt
        have r0 := HS2.out.w.rb.cell
        have rf := HS2.out.w.rb.frozen
        have rz := HS2.out.w.rb.lt
        have hno : ¬ O (z + 1 + 1) := fun h => by have := HS2.out.o _ h; have := HS2.out.w.big; omega
        have HNO := hide hno
        have HNX : Hid (brk prs e = false → VrJ A B prs w z (some ⟨ba, oa, none⟩) c (some ⟨bb, ob, none⟩) d m r pb (lu ++ lc) ds L (j + 1) O W2) := fun hb => by
          have h := HS2.out
          refine ⟨h.w, h.k, fun e' he' => ?_, h.mks, h.o, h.pz, h.pm, h.pr⟩
          rw [HTK.out] at he'
          rcases List.mem_append.1 he' with he' | he'
          · exact h.s e' he'
          · rw [List.mem_singleton.1 he']; exact hb
        have HBX : Hid (brk prs e = true → (Code.ret = Code.ret ∧ (∃ e ∈ L, brk prs e = true) ∧ VrX w z pb ds O (W2.setCell ⟨z + 1 + 1, 0, none⟩ (.int .i64 18)))) := fun hb => by
          have h := HS2.out
          have hbig := h.w.big
          refine ⟨rfl, ⟨e, HEM.out, hb⟩, h.w.ext.setCell (p := ⟨z + 1 + 1, 0, none⟩) (by show w.heap.size ≤ z + 1 + 1; have := HZW.out; omega) _, h.w.rb.set, h.mks.of_heap (fun b _ _ hh => Below.heap_setCell _ _ _ _ fun e => ?_), h.o, by simpa using h.pz, by omega⟩
          have hk1 := h.w.rb
          unfold Box at hk1
          subst e
          rw [show (⟨z + 1 + 1, 0, none⟩ : Addr).block = z + 1 + 1 from rfl, hk1] at hh; cases hh
        have HKX : Hid (KFO W9.heap.size O W2 (W2.setCell ⟨z + 1 + 1, 0, none⟩ (.int .i64 18))) := KFO.setCell _ _ _ hno
        clear hno
        by_cases hx : 0 ≤ e.x
        case neg =>
          have hd1 : decide (0 ≤ e.x) = false := decide_eq_false hx
          have HB := hide (HNX.out (by unfold brk; rw [hd1]; rfl))
          clear hx
          gi_wp2_with fail
          exact ⟨HK2.out, HB.out⟩
        have hd1 : decide (0 ≤ e.x) = true := decide_eq_true hx
        by_cases hy : e.y < 0
        case pos =>
          have hd2 : decide (e.y < 0) = true := decide_eq_true hy
          have HB := hide (HBX.out (by unfold brk; rw [hd1, hd2]; rfl))
          clear hx hy
          gi_wp2_with fail
          exact ⟨HKX.out, rfl, HB.out.2⟩
        have hd2 : decide (e.y < 0) = false := decide_eq_false hy
        have hbz : ∀ W, (zeroValue 4).run Try.prog W = .ok (.bool false) W := fun W => by kernel_rfl
        have hlook := HS2.out.k.km.look pkey_ok HUB.out hbz (e.x, e.y)
        rw [knL_get] at hlook
        unfold penc at hlook
        clear hbz
        by_cases hk : (e.x, e.y) ∈ prs
        · rw [decide_eq_true hk] at hlook
          have HB := hide (HNX.out (by unfold brk; rw [hd1, hd2, decide_eq_true hk]; rfl))
          clear hx hy hk
          gi_wp2_with fail
          exact ⟨HK2.out, HB.out⟩
        · rw [decide_eq_false hk] at hlook
          have HB := hide (HBX.out (by unfold brk; rw [hd1, hd2, decide_eq_false hk]; rfl))
          clear hx hy hk
          gi_wp2_with fail
          exact ⟨HKX.out, rfl, HB.out.2⟩
      · intro M O V hS hMl hM
        have HS := hide hS
        have HMM := hide hM
        have HML : Hid (pb ≤ M) := by show _ ≤ _; omega
        clear hS hM
        go_wp2_with fail
        have hS := HS.out
        have hmz := lt_of_heap HMM.out
        have hFL : folB A B prs ((s : Int), (t : Int)) = true := by
          rw [HFOL.out, List.all_eq_true]
          intro e he
          have := hS.s e (by rw [List.take_length]; exact he)
          rw [this]; rfl
        have hl0 := HL0.out
        refine Handed.intro (lu ++ lc).length (by rw [HN.out, hl0]; simp) (HJ.out _ _ _ (VrI.intro rfl rfl hS.w hS.k (fun x hx => ?_) (fun x hx => HI.out x ?_) ⟨M, rfl, by have := HML.out; have := hS.pm; have := hS.w.big; omega, hmz, HMM.out, hS.mks.top HML.out⟩))
        · rcases HF.out x hx with h | h
          · rw [hl0] at h
            rcases List.mem_append.1 h with h | h
            · exact .inl (List.mem_append_left _ h)
            · rcases List.mem_cons.1 h with rfl | h
              · exact .inr hFL
              · exact .inl (List.mem_append_right _ h)
          · exact .inr h
        · rw [hl0]
          rcases List.mem_append.1 hx with h | h
          · exact List.mem_append_left _ h
          · exact List.mem_append_right _ (List.mem_cons_of_mem _ h)
      · rintro M c O V ⟨rfl, ⟨e, he, heb⟩, hX⟩ hMl hM
        have HX := hide hX
        have HMM := hide hM
        have HML : Hid (pb ≤ M) := by show _ ≤ _; omega
        have HR : Hid (verS A B prs = 18) := by
          refine verS_proof HB0.out HL.out HI1.out H0.out HXP.out ?_
          rw [HFOL.out, List.all_eq_false]
          exact ⟨e, he, by rw [heb]; decide⟩
        clear hX hM he heb
        go_wp2_with fail
        have hzb := HX.out.zp
        refine leave_marks _ V.heap.size V (B := z) ⟨M, rfl, by have := HML.out; omega, lt_of_heap HMM.out, HMM.out, HX.out.mks.top HML.out⟩ (v := .int .i64 18) (fun W' hc => ?_) fun W' hc => ?_
        · have r1 := (HX.out.rb.chg hc).cell
          simp [results, go_sem, r1]
        · exact ⟨by rw [HR.out], HX.out.ext.chg hc (by have := HZW.out; omega)⟩
end Go.Proofs.Ytmkmgimmlohamaa
