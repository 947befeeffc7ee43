/-
  graph.Permute.
  Conditions: none.
-/
import Derived.Test.YtdlhnpogddpmpaaGreatGSpec
import Derived.Test.YtdlhnpogddpmpaaGreatOwned
import Derived.Test.YtdlhnpogddpmpaaGreatGMeas
import Derived.Test.YtdlhnpogddpmpaaGreatVecA
import Derived.Deep.CutRange
namespace Go.Proofs.YtdlhnpogddpmpaaGreat
open Go.RowKit
attribute [local go_sem] Oper.semAt_some

/-- Is v among the first i? -/
def seenB (l : List Int) (i : Nat) (v : Int) : Bool := (List.range i).any fun k => l.getD k 0 == v
theorem seenB_zero (l : List Int) (v : Int) : seenB l 0 v = false := rfl
theorem seenB_succ (l : List Int) (i : Nat) (v : Int) : seenB l (i + 1) v = (seenB l i v || l.getD i 0 == v) := by
  unfold seenB; rw [List.range_succ, List.any_append]; simp
def permAt (l : List Int) (i : Nat) : Int := if l.getD i 0 < 0 ∨ (l.length : Int) ≤ l.getD i 0 then 2 else if seenB l i (l.getD i 0) then 7 else 0
def permE (l : List Int) : Int := if l.length < 1 ∨ 5 < l.length then 2 else firstErr (permAt l) l.length
theorem permE_bad {l : List Int} (h : l.length < 1 ∨ 5 < l.length) : permE l = 2 := if_pos h
theorem permE_end {l : List Int} (h : ¬ (l.length < 1 ∨ 5 < l.length)) (hi : ∀ i, i < l.length → permAt l i = 0) : permE l = 0 := by unfold permE; rw [if_neg h]; exact firstErr_end hi
theorem permE_at {l : List Int} {k : Nat} (h : ¬ (l.length < 1 ∨ 5 < l.length)) (hk : k < l.length) (hi : ∀ i, i < k → permAt l i = 0) (he : permAt l k ≠ 0) : permE l = permAt l k := by unfold permE; rw [if_neg h]; exact firstErr_at hk hi he
/-- What a permutation is. -/
structure PermOk (l : List Int) : Prop where
  n1 : 1 ≤ l.length
  n5 : l.length ≤ 5
  bd : ∀ i, i < l.length → 0 ≤ l.getD i 0 ∧ l.getD i 0 < l.length
  inj : ∀ i j, i < l.length → j < i → l.getD j 0 ≠ l.getD i 0
theorem permE_ok {l : List Int} (h : permE l = 0) : PermOk l := by
  unfold permE at h
  by_cases h0 : l.length < 1 ∨ 5 < l.length
  · rw [if_pos h0] at h; omega
  rw [if_neg h0] at h
  have h1 := firstErr_zero.1 h
  refine ⟨by omega, by omega, fun i hi => ?_, fun i j hi hj => ?_⟩
  · have := h1 i hi
    unfold permAt at this
    by_cases h2 : l.getD i 0 < 0 ∨ (l.length : Int) ≤ l.getD i 0
    · rw [if_pos h2] at this; omega
    · omega
  · have := h1 i hi
    unfold permAt at this
    by_cases h2 : l.getD i 0 < 0 ∨ (l.length : Int) ≤ l.getD i 0
    · rw [if_pos h2] at this; omega
    · rw [if_neg h2] at this
      intro he
      have hs : seenB l i (l.getD i 0) = true := by
        unfold seenB; simp only [List.any_eq_true, List.mem_range, beq_iff_eq]; exact ⟨j, hj, he⟩
      rw [if_pos hs] at this
      omega
theorem pmnumber_any (n : Nat) (w : World) : Calls Tryz.prog 101 #[.int .i64 n] w fun e w' => e = .returned (.int .i64 (if n < 1 ∨ 5 < n then 2 else 0)) ∧ w' = w := by
  by_cases h1 : n < 1
  · obtain rfl : n = 0 := by omega
    go_enter Tryz.func101, Tryz.ntmps101
    go_wp2
    go_ret
    simp
  · by_cases h2 : 5 < n
    · have h3 : (5 : Int) < n := by omega
      have h4 : ¬ (n : Int) < 1 := by omega
      have HR : Hid ((if n < 1 ∨ 5 < n then (2 : Int) else 0) = 2) := if_pos (.inr h2)
      rw [HR.out]
      clear h1 h2
      go_enter Tryz.func101, Tryz.ntmps101
      go_wp2
      go_ret
      simp
    · have h3 : ¬ (5 : Int) < n := by omega
      have h4 : ¬ (n : Int) < 1 := by omega
      have HR : Hid ((if n < 1 ∨ 5 < n then (2 : Int) else 0) = 0) := if_neg (by omega)
      rw [HR.out]
      clear h1 h2
      go_enter Tryz.func101, Tryz.ntmps101
      go_wp2
      go_ret
      simp
/-- The block of the numbers seen. -/
def SeenBox (l : List Int) (W : World) (b i : Nat) : Prop := W.heap[b]? = some (.cells #[.bool (seenB l i 0), .bool (seenB l i 1), .bool (seenB l i 2), .bool (seenB l i 3), .bool (seenB l i 4)] 133 (0, 0))
theorem SeenBox.at_ {l : List Int} {W : World} {b i : Nat} (h : SeenBox l W b i) {v : Nat} (hv : v < 5) : W.cell? ⟨b, v, none⟩ = some (.bool (seenB l i v)) ∧ W.frozen? ⟨b, v, none⟩ = false := by
  refine ⟨?_, frozen_of h⟩
  rw [cell_of_row _ _ _ _ _ _ h]
  obtain rfl | rfl | rfl | rfl | rfl : v = 0 ∨ v = 1 ∨ v = 2 ∨ v = 3 ∨ v = 4 := by omega
  all_goals rfl
theorem SeenBox.set {l : List Int} {W : World} {b i v : Nat} (h : SeenBox l W b i) (hv : v < 5) (hx : l.getD i 0 = v) : SeenBox l (W.setCell ⟨b, v, none⟩ (.bool true)) b (i + 1) := by
  have := heap_set (j := v) h (.bool true)
  unfold SeenBox
  rw [this]
  congr 2
  simp only [seenB_succ, hx]
  obtain rfl | rfl | rfl | rfl | rfl : v = 0 ∨ v = 1 ∨ v = 2 ∨ v = 3 ∨ v = 4 := by omega
  all_goals simp
set_option maxRecDepth 16000 in
set_option maxHeartbeats 1000000 in
theorem pmcheck_any (l : List Int) (u : Value) (w : World) (hl : Row icells 1 w u l) : Calls Tryz.prog 77 #[u] w fun e w' => e = .returned (.int .i64 (permE l)) ∧ Ext w w' := by
  obtain ⟨p, c, rfl, hc, hlen, hat⟩ := hl.int_all
  have HAT := hide hat
  have HNU := hide (fun W => pmnumber_any l.length W)
  clear hl hat
  by_cases h0 : l.length < 1 ∨ 5 < l.length
  · rw [permE_bad h0]
    have HN2 : Hid (∀ W, Calls Tryz.prog 101 #[.int .i64 l.length] W fun e w' => e = .returned (.int .i64 2) ∧ w' = W) := fun W => by
      have := HNU.out W; rwa [if_pos h0] at this
    clear h0
    go_enter Tryz.func77, Tryz.ntmps77
    go_wp2_with (go_at_call 101; refine (HN2.out _).mono ?_; rintro e w' ⟨rfl, rfl⟩)
    go_ret
    exact ⟨rfl, Ext.refl _⟩
  · have HN2 : Hid (∀ W, Calls Tryz.prog 101 #[.int .i64 l.length] W fun e w' => e = .returned (.int .i64 0) ∧ w' = W) := fun W => by
      have := HNU.out W; rwa [if_neg h0] at this
    have HEND := hide (permE_end (l := l) h0)
    have HERR := hide (fun k hk hi he => permE_at (l := l) (k := k) h0 hk hi he)
    have hl5 : l.length ≤ 5 := by omega
    have HPA := hide (fun i => show permAt l i = if l.getD i 0 < 0 ∨ (l.length : Int) ≤ l.getD i 0 then 2 else if seenB l i (l.getD i 0) then 7 else 0 from rfl)
    generalize permE l = res at HEND HERR ⊢
    generalize permAt l = pa at HEND HERR HPA
    clear h0
    go_enter Tryz.func77, Tryz.ntmps77
    go_wp2_with (go_at_call 101; refine (HN2.out _).mono ?_; rintro e w' ⟨rfl, rfl⟩)
    have HB : Hid (SeenBox l (w'.alloc (.cells #[.bool false, .bool false, .bool false, .bool false, .bool false] 133)) w'.heap.size 0) := heap_alloc_new w' _
    have HE : Hid (Ext w' (w'.alloc (.cells #[.bool false, .bool false, .bool false, .bool false, .bool false] 133))) := (Ext.refl w').alloc _
    generalize w'.alloc (.cells #[.bool false, .bool false, .bool false, .bool false, .bool false] 133) = W at HB HE ⊢
    go_loopw [15] (fun x V => ∃ i : Nat, i ≤ l.length ∧ x = .int .i64 i ∧ Hid (Ext w' V) ∧ Hid (SeenBox l V w'.heap.size i) ∧ Hid (∀ j, j < i → pa j = 0)) (fun x _ => l.length - (intOf x).toNat)
    case atStart => exact ⟨0, by omega, rfl, HE, HB, fun j hj => by omega⟩
    case round =>
      clear HB HE
      obtain ⟨i, hi, rfl, HE, HB, HJ⟩ := hrel
      by_cases hlt : i < l.length
      · obtain ⟨b, o, rfl, hb, hat⟩ := HAT.out (by omega)
        have hx := hat i hlt _ HE.out
        have hbz : b < wr.heap.size := Nat.lt_of_lt_of_le hb HE.out.size
        have hpa := HPA.out i
        have HER := hide (HERR.out i hlt HJ.out)
        have HSET := hide (fun (v : Nat) hv (hxv : l.getD i 0 = (v : Int)) => HB.out.set (v := v) hv hxv)
        generalize l.getD i 0 = x at hx hpa HSET
        clear hat
        by_cases h1 : x < 0
        · have HR : Hid (res = 2) := by
            have h2 : pa i = 2 := by rw [hpa, if_pos (.inl h1)]
            have := HER.out (by rw [h2]; decide)
            rwa [h2] at this
          clear hpa
          go_wp2_with fail
          go_ret
          exact ⟨ret_int HR.out.symm, HE.out⟩
        by_cases h2 : (l.length : Int) ≤ x
        · have HR : Hid (res = 2) := by
            have h2 : pa i = 2 := by rw [hpa, if_pos (.inr h2)]
            have := HER.out (by rw [h2]; decide)
            rwa [h2] at this
          clear hpa
          go_wp2_with fail
          go_ret
          exact ⟨ret_int HR.out.symm, HE.out⟩
        obtain ⟨v, rfl⟩ := Int.eq_ofNat_of_zero_le (show 0 ≤ x by omega)
        rw [if_neg (by omega)] at hpa
        have hv5 : (v : Int) < 5 := by omega
        obtain ⟨hs, hf⟩ := HB.out.at_ (v := v) (by omega)
        have hz := lt_of_heap HB.out
        have HSET := hide (HSET.out v (by omega) rfl)
        cases hsb : seenB l i (v : Int) with
        | true =>
          rw [hsb] at hs hpa
          have HR : Hid (res = 7) := by
            have h2 : pa i = 7 := by rw [hpa]; rfl
            have := HER.out (by rw [h2]; decide)
            rwa [h2] at this
          clear hpa hsb
          go_wp2_with fail
          go_ret
          exact ⟨ret_int HR.out.symm, HE.out⟩
        | false =>
          rw [hsb] at hs hpa
          have HJ2 : Hid (∀ j, j < i + 1 → pa j = 0) := fun j hj => by
            by_cases e : j = i
            · subst e; rw [hpa]; rfl
            · exact HJ.out j (by omega)
          have HE2 := hide (HE.out.setCell (p := ⟨w'.heap.size, v, none⟩) (Nat.le_refl _) (.bool true))
          clear hpa hsb
          go_wp2_with fail
          go_roundw
          case rel => exact ⟨i + 1, by omega, by go_num, HE2, HSET, HJ2⟩
          case measure => simp [intOf]; omega
      · obtain rfl : i = l.length := by omega
        have HR := hide (HEND.out HJ.out)
        go_wp2_with fail
        go_ret
        exact ⟨ret_int HR.out.symm, HE.out⟩
end Go.Proofs.YtdlhnpogddpmpaaGreat

namespace Go.Proofs.YtdlhnpogddpmpaaGreat
open Go.RowKit
attribute [local go_sem] Oper.semAt_some

/-- The inverse, its first i entries written. -/
def invL (l : List Int) : Nat → List Int
  | 0 => List.replicate l.length 0
  | i + 1 => (invL l i).set (l.getD i 0).toNat i
theorem invL_len (l : List Int) : ∀ i, (invL l i).length = l.length
  | 0 => by simp [invL]
  | i + 1 => by rw [invL, List.length_set, invL_len l i]
theorem PermOk.nat {l : List Int} (h : PermOk l) {i : Nat} (hi : i < l.length) : l.getD i 0 = ((l.getD i 0).toNat : Int) ∧ (l.getD i 0).toNat < l.length := by
  have := h.bd i hi; omega
theorem PermOk.inj' {l : List Int} (h : PermOk l) {i j : Nat} (hi : i < l.length) (hj : j < l.length) (he : (l.getD i 0).toNat = (l.getD j 0).toNat) : i = j := by
  have h1 := (h.nat hi).1
  have h2 := (h.nat hj).1
  rcases Nat.lt_trichotomy i j with h3 | h3 | h3
  · exact absurd (show l.getD i 0 = l.getD j 0 by omega) (h.inj j i hj h3)
  · exact h3
  · exact absurd (show l.getD j 0 = l.getD i 0 by omega) (h.inj i j hi h3)
theorem invL_at {l : List Int} (h : PermOk l) : ∀ i, i ≤ l.length → ∀ k, k < i → (invL l i).getD (l.getD k 0).toNat 0 = k
  | 0, _, k, hk => by omega
  | i + 1, hi, k, hk => by
    rw [invL, List.getD_eq_getElem?_getD, List.getElem?_set]
    by_cases e : (l.getD i 0).toNat = (l.getD k 0).toNat
    · have : i = k := h.inj' (by omega) (by omega) e
      subst this
      rw [if_pos rfl, if_pos (by rw [invL_len]; exact (h.nat (by omega)).2)]; rfl
    · rw [if_neg e, ← List.getD_eq_getElem?_getD]
      refine invL_at h i (by omega) k ?_
      rcases Nat.lt_or_ge k i with h1 | h1
      · exact h1
      · have : k = i := by omega
        subst this; exact absurd rfl e
/-- The permutation, as a function; its inverse. -/
def piN (l : List Int) (k : Nat) : Nat := (l.getD k 0).toNat
def bkN (l : List Int) (q : Nat) : Nat := ((invL l l.length).getD q 0).toNat
theorem bk_pi {l : List Int} (h : PermOk l) {k : Nat} (hk : k < l.length) : bkN l (piN l k) = k := by
  unfold bkN piN; rw [invL_at h _ (Nat.le_refl _) k hk]; rfl
/-- The image of a set. -/
def imgN (l : List Int) (s : Nat) : Nat → Nat := unionR (fun k => 2 ^ piN l k) s
theorem imgN_lt {l : List Int} (h : PermOk l) (s : Nat) : ∀ k, k ≤ l.length → imgN l s k < 2 ^ l.length
  | 0, _ => Nat.two_pow_pos _
  | k + 1, hk => by
    show imgN l s k ||| _ < _
    refine Nat.or_lt_two_pow (imgN_lt h s k (by omega)) ?_
    split
    · exact Nat.pow_lt_pow_right (by decide) (h.nat (by omega)).2
    · exact Nat.two_pow_pos _
theorem card_add : ∀ s, s < 32 → ∀ v, v < 5 → s.testBit v = false → cardN (s ||| 2 ^ v) = cardN s + 1 := by decide +kernel
theorem card_full : ∀ n, n ≤ 5 → ∀ s, s < 2 ^ n → cardN s = n → s = 2 ^ n - 1 := by decide +kernel
theorem img_card {l : List Int} (h : PermOk l) : ∀ k, k ≤ l.length → cardN (imgN l (2 ^ l.length - 1) k) = k
  | 0, _ => (show cardN 0 = 0 by decide)
  | k + 1, hk => by
    have hb : (2 ^ l.length - 1).testBit k = true := by rw [Nat.testBit_two_pow_sub_one, decide_eq_true_eq]; omega
    have hn := (h.nat (i := k) (by omega)).2
    have h5 := h.n5
    have hs : imgN l (2 ^ l.length - 1) (k + 1) = imgN l (2 ^ l.length - 1) k ||| 2 ^ piN l k := by
      show unionR _ _ (k + 1) = _
      rw [unionR, if_pos hb]; rfl
    rw [hs, card_add _ (Nat.lt_of_lt_of_le (imgN_lt h _ k (by omega)) (pow2_32 h5)) _ (by unfold piN; omega), img_card h k (by omega)]
    cases hc : (imgN l (2 ^ l.length - 1) k).testBit (piN l k) with
    | false => rfl
    | true =>
      obtain ⟨m, h1, _, h2⟩ := (unionR_bit _ _ _ k).1 hc
      have h3 : piN l m = piN l k := by simpa [Nat.testBit_two_pow] using h2
      have := h.inj' (by omega) (by omega) h3
      omega
/-- Every number is met. -/
theorem pi_surj {l : List Int} (h : PermOk l) {q : Nat} (hq : q < l.length) : ∃ k, k < l.length ∧ piN l k = q := by
  have hf := card_full _ h.n5 _ (imgN_lt h (2 ^ l.length - 1) _ (Nat.le_refl _)) (img_card h _ (Nat.le_refl _))
  have hb : (imgN l (2 ^ l.length - 1) l.length).testBit q = true := by rw [hf, Nat.testBit_two_pow_sub_one]; simpa using hq
  obtain ⟨m, h1, _, h2⟩ := (unionR_bit _ _ _ _).1 hb
  exact ⟨m, h1, by simpa [Nat.testBit_two_pow] using h2⟩
theorem pi_bk {l : List Int} (h : PermOk l) {q : Nat} (hq : q < l.length) : piN l (bkN l q) = q ∧ bkN l q < l.length := by
  obtain ⟨k, hk, rfl⟩ := pi_surj h hq
  rw [bk_pi h hk]; exact ⟨rfl, hk⟩
theorem img_bit {l : List Int} (s q : Nat) : (imgN l s l.length).testBit q = true ↔ ∃ k, k < l.length ∧ s.testBit k = true ∧ piN l k = q := by
  unfold imgN
  rw [unionR_bit]
  simp only [Nat.testBit_two_pow, decide_eq_true_eq]
def permG (g : Gr) (l : List Int) : Gr := natG l.length fun q => imgN l (g.r (bkN l q)) l.length
theorem perm_wf {g : Gr} {l : List Int} (hg : Wf g l.length) (h : PermOk l) : Wf (permG g l) l.length := by
  refine natG_wf h.n1 h.n5 (fun p _ => imgN_lt h _ _ (Nat.le_refl _)) fun p hp => ?_
  rw [img_bit]
  obtain ⟨h1, h2⟩ := pi_bk h hp
  exact ⟨bkN l p, h2, hg.own _ h2, h1⟩
theorem perm_bit {g : Gr} {l : List Int} (hg : Wf g l.length) (h : PermOk l) {p q : Nat} (hp : p < l.length) (hq : q < l.length) : ((permG g l).r (piN l p)).testBit (piN l q) = (g.r p).testBit q := by
  have hpp : piN l p < l.length := (h.nat hp).2
  unfold permG
  rw [natG_r _ _ hg.n5, if_pos hpp, bk_pi h hp, Bool.eq_iff_iff, img_bit]
  constructor
  · rintro ⟨k, hk, h1, h2⟩
    have : k = q := h.inj' hk hq h2
    subst this; exact h1
  · intro h1; exact ⟨q, hq, h1, rfl⟩
def permuteS (g : Gr) (l : List Int) : Gr × Int := if gchk g ≠ 0 then (gz0, gchk g) else if permE l ≠ 0 then (gz0, permE l) else if (l.length : Int) ≠ g.n then (gz0, 22) else (permG g l, 0)

theorem info_int : (Tryz.prog.info? 3).map (fun i => (i.zero, i.size, i.bytes)) = some (some (.int .i64 0), 1, 8) := int_info
/-- A new slice that holds a list, and an error. -/
def RetL (L : List Int) (w : World) (u : Value) (w' : World) : Prop := Row icells 1 w' u L ∧ (∀ a n c, u = .slice (some a) n c → w.heap.size ≤ a.block) 
set_option maxRecDepth 16000 in
set_option maxHeartbeats 1000000 in
theorem inverse_ok (l : List Int) (h : PermOk l) (hE0 : permE l = 0) (u : Value) (w : World) (hl : Row icells 1 w u l) : Calls Tryz.prog 74 #[u] w (RetV2 (fun u w' => Row icells 1 w' u (invL l l.length)) 0 w) := by
  have HC := hide (fun W (hE : Ext w W) => pmcheck_any l u W (hl.ext hE))
  rw [hE0] at HC
  obtain ⟨p, c, rfl, hc, hlen, hat⟩ := hl.int_all
  have HAT := hide hat
  have HI := hide (fun i => show invL l (i + 1) = (invL l i).set (l.getD i 0).toNat i from rfl)
  have HI0 := hide (show invL l 0 = List.replicate l.length 0 from rfl)
  have HIL := hide (invL_len l)
  have HNAT := hide (fun i hi => h.nat (i := i) hi)
  have h5 := h.n5
  have h1 := h.n1
  have hmk := fun W => make_ints (P := Tryz.prog) 48 3 Tryz.underlying48 int_info l.length h5 W
  generalize invL l = iv at HI HI0 HIL ⊢
  clear hl hat h hE0
  go_enter Tryz.func74, Tryz.ntmps74
  go_wp2_with fail
  refine (HC.out _ (Ext.refl _)).mono ?_
  rintro e w1 ⟨rfl, hE⟩
  have HE := hide hE
  clear hE
  go_wp2_with fail
  have HN : Hid (Nums (w1.alloc (.cells (vals (List.replicate l.length 0)) 3)) w1.heap.size (iv 0)) := by
    show Nums _ _ _; rw [HI0.out]; exact heap_alloc_new w1 _
  have HE2 := hide (HE.out.alloc (.cells (vals (List.replicate l.length 0)) 3))
  have HZ := hide HE.out.size
  generalize w1.alloc (.cells (vals (List.replicate l.length 0)) 3) = W at HN HE2 ⊢
  generalize w1.heap.size = bb at HN HZ ⊢
  clear hmk
  go_loopw [18] (fun x V => ∃ i : Nat, i ≤ l.length ∧ x = .int .i64 i ∧ Hid (Ext w V) ∧ Hid (Nums V bb (iv i))) (fun x _ => l.length - (intOf x).toNat)
  case atStart => exact ⟨0, by omega, rfl, HE2, HN⟩
  case round =>
    clear HN HE2 HE
    obtain ⟨i, hi, rfl, HE, HN⟩ := hrel
    by_cases hlt : i < l.length
    · obtain ⟨b, o, rfl, hb, hat⟩ := HAT.out (by omega)
      have hx := hat i hlt _ HE.out
      have hbz : b < wr.heap.size := Nat.lt_of_lt_of_le hb HE.out.size
      obtain ⟨hxn, hxl⟩ := HNAT.out i hlt
      have HI2 := hide (HI.out i)
      generalize (l.getD i 0).toNat = v at hxn hxl HI2
      rw [hxn] at hx
      have hv5 : (v : Int) < 5 := by omega
      have hcv := HN.out.at_ (j := v) (by rw [HIL.out]; exact hxl)
      have hfz : wr.frozen? ⟨bb, v, none⟩ = false := frozen_of HN.out
      have hbb := lt_of_heap HN.out
      have HSET := hide (HN.out.set v (i : Int))
      rw [← HI2.out] at HSET
      have HE2 := hide (HE.out.setCell (p := ⟨bb, v, none⟩) HZ.out (.int .i64 i))
      clear hat hxn
      go_wp2_with fail
      go_roundw
      case rel => exact ⟨i + 1, by omega, by go_num, HE2, HSET⟩
      case measure => simp [intOf]; omega
    · obtain rfl : i = l.length := by omega
      have hrow := HN.out.row (by rw [HIL.out]; omega)
      rw [HIL.out] at hrow
      have HROW := hide hrow
      clear hrow
      go_wp2_with fail
      go_ret2
      exact ⟨_, rfl, HROW.out, HE.out⟩
theorem shl_pow (c : Bool) (k : Nat) (hk : k < 5) : wrap64 (((if c then 1 else 0 : Nat) : Int) * 2 ^ k) = ((if c then 2 ^ k else 0 : Nat) : Int) := shl_bit c k (by omega)
theorem and1_bit (x p : Nat) : (x >>> p &&& 1) = if x.testBit p then 1 else 0 := by
  rw [Nat.and_one_is_mod, Nat.testBit_eq_decide_div_mod_eq, Nat.shiftRight_eq_div_pow]
  by_cases h : x / 2 ^ p % 2 = 1
  · simp [h]
  · simp [h]; omega
theorem pow_len (n : Nat) (h1 : 1 ≤ n) (h5 : n ≤ 5) : wrap64 (2 ^ n) = ((2 ^ n : Nat) : Int) := by
  obtain rfl | rfl | rfl | rfl | rfl : n = 1 ∨ n = 2 ∨ n = 3 ∨ n = 4 ∨ n = 5 := by omega
  all_goals kernel_rfl
set_option maxRecDepth 16000 in
set_option maxHeartbeats 1000000 in
theorem set_ok (l : List Int) (h : PermOk l) (hE0 : permE l = 0) (s : Nat) (hs : s < 2 ^ l.length) (u : Value) (w : World) (hl : Row icells 1 w u l) :
    Calls Tryz.prog 53 #[u, .int .i64 s] w (RetV1 (.int .i64 (imgN l s l.length : Nat), 0) w) := by
  have HC := hide (fun W (hE : Ext w W) => pmcheck_any l u W (hl.ext hE))
  rw [hE0] at HC
  obtain ⟨p, c, rfl, hc, hlen, hat⟩ := hl.int_all
  have HAT := hide hat
  have HI := hide (fun i => show imgN l s (i + 1) = imgN l s i ||| (if s.testBit i then 2 ^ (l.getD i 0).toNat else 0) from rfl)
  have HI0 := hide (show imgN l s 0 = 0 from rfl)
  have HIL := hide (fun i (hi : i ≤ l.length) => Nat.lt_of_lt_of_le (imgN_lt h s i hi) (pow2_32 h.n5))
  have HNAT := hide (fun i hi => h.nat (i := i) hi)
  have h5 := h.n5
  have h1 := h.n1
  have hs32 : s < 32 := Nat.lt_of_lt_of_le hs (pow2_32 h5)
  have hpl := pow_len _ h1 h5
  have hd2 : decide (((2 ^ l.length : Nat) : Int) ≤ (s : Int)) = false := by simp only [decide_eq_false_iff_not]; omega
  have hd3 : ¬ (((2 ^ l.length : Nat) : Int) ≤ (s : Int)) := by omega
  generalize 2 ^ l.length = M at hpl hd2 hd3
  generalize imgN l s = im at HI HI0 HIL ⊢
  clear hl hat h hE0 hs
  go_enter Tryz.func53, Tryz.ntmps53
  go_wp2_with fail
  refine (HC.out _ (Ext.refl _)).mono ?_
  rintro e w1 ⟨rfl, hE⟩
  have HE := hide hE
  clear hE
  go_wp2_with fail
  clear hpl hd2 hd3
  go_loop [7, 26] (fun o x => ∃ i : Nat, i ≤ l.length ∧ x = .int .i64 i ∧ o = .int .i64 (im i : Nat)) (fun _ x => l.length - (intOf x).toNat)
  case atStart => exact ⟨0, by omega, rfl, by rw [HI0.out]; rfl⟩
  case round =>
    obtain ⟨i, hi, rfl, rfl⟩ := hrel
    by_cases hlt : i < l.length
    · obtain ⟨b, o, rfl, hb, hat⟩ := HAT.out (by omega)
      have hx := hat i hlt _ HE.out
      have hbz : b < w1.heap.size := Nat.lt_of_lt_of_le hb HE.out.size
      obtain ⟨hxn, hxl⟩ := HNAT.out i hlt
      have hi2 := HI.out i
      have hil := HIL.out i (by omega)
      generalize (l.getD i 0).toNat = v at hxn hxl hi2
      rw [hxn] at hx
      have hi5 : (i : Int) < 5 := by omega
      have hv5 : (v : Int) < 5 := by omega
      have h1 := shr1 (p := i) hs32
      have hsh : wrap64 (((s >>> i &&& 1 : Nat) : Int) * 2 ^ v) = ((if s.testBit i then 2 ^ v else 0 : Nat) : Int) := by rw [and1_bit]; exact shl_pow _ v (by omega)
      have hsm : (if s.testBit i then 2 ^ v else 0) ≤ 32 := by split; exact pow2_32 (by omega); omega
      have hor := i64_or_nat (im i) (if s.testBit i then 2 ^ v else 0) (Nat.lt_of_lt_of_le hil (by decide)) (Nat.lt_of_le_of_lt hsm (by decide))
      rw [← hi2] at hor
      have HI2 := hide hi2
      generalize (if s.testBit i then 2 ^ v else 0) = y at hsh hor hsm
      generalize (s >>> i &&& 1) = bit at *
      generalize im i = x0 at *
      clear hat hxn hi2
      go_wp2_with fail
      go_round
      case rel => exact ⟨i + 1, by omega, by go_num, rfl⟩
      case measure => simp [intOf]; omega
    · obtain rfl : i = l.length := by omega
      go_wp2_with fail
      go_ret2
      exact ⟨rfl, HE.out⟩
end Go.Proofs.YtdlhnpogddpmpaaGreat

namespace Go.Proofs.YtdlhnpogddpmpaaGreat
open Go.RowKit
attribute [local go_sem] Oper.semAt_some

/-- Boxes of a graph, of a list, and room for a result. -/
structure PB (w W : World) (g : Gr) (u : Value) : Prop where
  ext : Ext w W
  g : GrBox W w.heap.size g
  s : Box W (w.heap.size + 1) 48 u
  c : ∃ g', GrBox W (w.heap.size + 1 + 1) g'
theorem PB.mk_ (w : World) (g : Gr) (u : Value) : PB w (((w.alloc (gobj g)).alloc (.cells #[u] 48)).alloc gobj0) g u :=
  ⟨(((Ext.refl w).alloc _).alloc _).alloc _, ((gr_new w g).alloc _).alloc _, by
    have := (Box.new (w.alloc (gobj g)) 48 u).alloc gobj0
    rwa [World.size_alloc] at this, gz0, by
    have := gr_new ((w.alloc (gobj g)).alloc (.cells #[u] 48)) gz0
    rwa [World.size_alloc, World.size_alloc] at this⟩
theorem PB.ext_ {w W V : World} {g : Gr} {u : Value} (h : PB w W g u) (hE : Ext W V) : PB w V g u :=
  ⟨h.ext.trans hE, h.g.ext hE, h.s.ext hE, by obtain ⟨c, hc⟩ := h.c; exact ⟨c, hc.ext hE⟩⟩
set_option maxRecDepth 16000 in
set_option maxHeartbeats 1000000 in
theorem permute1_any (g : Gr) (l : List Int) (hg : Wf g l.length) (h : PermOk l) (hE0 : permE l = 0) (q : Nat) (hq : q < l.length) (bp bg bk : Nat) (u ub : Value) (w : World)
    (hbp : Box w bp 48 u) (hu : Row icells 1 w u l) (hbg : GrBox w bg g) (hbk : Box w bk 48 ub) (hub : Row icells 1 w ub (invL l l.length)) :
    Calls Tryz.prog 76 #[.int .i64 q, .pointer (some ⟨bp, 0, none⟩), .pointer (some ⟨bg, 0, none⟩), .pointer (some ⟨bk, 0, none⟩)] w fun e w' => e = .returned (.int .i64 (imgN l (g.r (bkN l q)) l.length : Nat)) ∧ Ext w w' := by
  obtain ⟨hb1, hb2⟩ := pi_bk h hq
  have HS : Hid (∀ W, Ext w W → Calls Tryz.prog 53 #[u, .int .i64 (g.r (bkN l q) : Nat)] W fun e w' => e = .returned (.tuple #[.int .i64 (imgN l (g.r (bkN l q)) l.length : Nat), .int .i64 0]) ∧ Ext W w') :=
    fun W hE => set_ok l h hE0 _ (hg.ltn _) u W (hu.ext hE)
  obtain ⟨hrow, -⟩ := hbg.row (p := bkN l q) (by have := h.n5; omega)
  rw [hg.row] at hrow
  have hbk5 : (bkN l q : Int) < 5 := by have := h.n5; omega
  obtain ⟨p, c, rfl, hc, hlen, hat⟩ := hub.int_all
  rw [invL_len] at hc hlen hat
  obtain ⟨b, o, rfl, hb, hat⟩ := hat (by omega)
  have hx := hat q hq _ (Ext.refl _)
  have hxe : (invL l l.length).getD q 0 = (bkN l q : Int) := by
    obtain ⟨k, hk, rfl⟩ := pi_surj h hq
    rw [bk_pi h hk]
    have := invL_at h _ (Nat.le_refl _) k hk
    unfold piN
    exact this
  rw [hxe] at hx
  obtain ⟨pu, cu, rfl, -, -, -⟩ := hu.int_all
  rw [invL_len] at hbk
  have hc1 := hbp.cell
  have hc3 := hbk.cell
  have z1 := hbp.lt
  have z2 := lt_of_heap hbg
  have z3 := hbk.lt
  have hqI : (q : Int) < l.length := by omega
  clear hat hxe hb1 hb2 hbp hu hbg hbk hub hg h hE0
  generalize bkN l q = k at *
  generalize g.r k = s at *
  generalize imgN l s l.length = res at *
  go_enter Tryz.func76, Tryz.ntmps76
  go_wp2_with fail
  refine wp_region_ext (by kernel_rfl) (by kernel_rfl) ?_
  repeat (go_big_quiet_step ((go_at_call 53; exact Calls.ext_of (HS.out _ (by simp [go_sem])))))
  refine wpQuiet_nil ?_
  rintro w9 ⟨⟨_, hE9⟩, rfl⟩
  clear hx hrow hc1 hc3
  go_wp2_with fail
  go_ret
  exact ⟨rfl, hE9⟩
theorem enters_pm1 : ∀ args w, (callFunc 76 args).run Tryz.prog w = .ok (.enter 76 args) w := fun _ _ => by kernel_rfl
set_option maxHeartbeats 1000000 in
theorem inverse_bad (l : List Int) (hE0 : permE l ≠ 0) (u : Value) (w : World) (hl : Row icells 1 w u l) : Calls Tryz.prog 74 #[u] w fun e w' => e = .returned (.tuple #[.slice none 0 0, .int .i64 (permE l)]) ∧ Ext w w' := by
  have HC := hide (fun W (hE : Ext w W) => pmcheck_any l u W (hl.ext hE))
  obtain ⟨p, c, rfl, -, -, -⟩ := hl.int_all
  generalize permE l = e at *
  have hd : (e != 0) = true := by simp [hE0]
  clear hl hE0
  go_enter Tryz.func74, Tryz.ntmps74
  go_wp2_with fail
  refine (HC.out _ (Ext.refl _)).mono ?_
  rintro r w1 ⟨rfl, hE⟩
  have HE := hide hE
  clear hE
  go_wp2_with fail
  go_ret2
  exact ⟨rfl, HE.out⟩
theorem permuteS_g {g : Gr} {l : List Int} (h : gchk g ≠ 0) : permuteS g l = (gz0, gchk g) := if_pos h
theorem permuteS_l {g : Gr} {l : List Int} (h : gchk g = 0) (h2 : permE l ≠ 0) : permuteS g l = (gz0, permE l) := by unfold permuteS; rw [if_neg (by simp [h]), if_pos h2]
theorem permuteS_n {g : Gr} {l : List Int} (h : gchk g = 0) (h2 : permE l = 0) (h3 : (l.length : Int) ≠ g.n) : permuteS g l = (gz0, 22) := by unfold permuteS; rw [if_neg (by simp [h]), if_neg (by simp [h2]), if_pos h3]
theorem permuteS_0 {g : Gr} {l : List Int} (h : gchk g = 0) (h2 : permE l = 0) (h3 : (l.length : Int) = g.n) : permuteS g l = (permG g l, 0) := by unfold permuteS; rw [if_neg (by simp [h]), if_neg (by simp [h2]), if_neg (by simp [h3])]
theorem wf_len {g : Gr} {l : List Int} (h : gchk g = 0) (h3 : (l.length : Int) = g.n) : Wf g l.length := by
  obtain ⟨n, hn⟩ := wf_of h
  have := hn.n_eq
  have : n = l.length := by omega
  subst this; exact hn
set_option maxRecDepth 16000 in
set_option maxHeartbeats 2000000 in
theorem permute_any (g : Gr) (l : List Int) (u : Value) (w : World) (hu : Row icells 1 w u l) : Calls Tryz.prog 52 #[g.v, u] w (RetG (permuteS g l) w) := by
  have HC := hide (fun W => gcheck_any g W)
  have HU := hide hu
  obtain ⟨p, c, rfl, hc, hlen, -⟩ := hu.int_all
  clear hu
  by_cases h1 : gchk g = 0
  case neg =>
    have HR := hide (permuteS_g (l := l) h1)
    generalize permuteS g l = res at HR ⊢
    generalize gchk g = e at HC HR h1
    have hd : (e != 0) = true := by simp [h1]
    clear h1
    go_enter Tryz.func52, Tryz.ntmps52
    go_wp2_with fail
    have HT := hide (PB.mk_ w g (.slice p l.length c))
    generalize ((w.alloc (gobj g)).alloc (.cells #[.slice p l.length c] 48)).alloc gobj0 = W at HT ⊢
    refine (HC.out _).mono ?_
    rintro r w1 ⟨rfl, hE⟩
    have HT := hide (HT.out.ext_ hE)
    clear hE
    obtain ⟨g', hg⟩ := HT.out.c
    obtain ⟨d0, d1, d2, d3, d4, d5, dz⟩ := hg.cells
    obtain ⟨f0, f1, f2, f3, f4, f5⟩ := hg.frozen
    have HG := hide hg
    clear hg
    go_wp2_with fail
    exact bodyPost_ret (v := .tuple #[gz0.v, .int .i64 e]) (results_gr2 rfl _ rfl rfl (HG.out.store gz0)) rfl ⟨by rw [HR.out], HT.out.ext.gstore (by omega) gz0⟩
  case pos =>
  rw [h1] at HC
  by_cases h2 : permE l = 0
  case neg =>
    have HR := hide (permuteS_l h1 h2)
    have HI := hide (fun W (hE : Ext w W) => inverse_bad l h2 _ W (HU.out.ext hE))
    generalize permuteS g l = res at HR ⊢
    generalize permE l = e at HI HR h2
    have hd : (e != 0) = true := by simp [h2]
    clear h2 h1
    go_enter Tryz.func52, Tryz.ntmps52
    go_wp2_with fail
    have HT := hide (PB.mk_ w g (.slice p l.length c))
    generalize ((w.alloc (gobj g)).alloc (.cells #[.slice p l.length c] 48)).alloc gobj0 = W at HT ⊢
    refine (HC.out _).mono ?_
    rintro r w1 ⟨rfl, hE⟩
    have HT := hide (HT.out.ext_ hE)
    clear hE
    have hs := HT.out.s.cell
    have hsz := HT.out.s.lt
    go_wp2_with fail
    refine (HI.out _ HT.out.ext).mono ?_
    rintro r w2 ⟨rfl, hE⟩
    have HT := hide ((HT.out.ext_ hE).ext_ ((Ext.refl w2).alloc (.cells #[.slice none 0 0] 48)))
    clear hE hs hsz
    obtain ⟨g', hg⟩ := HT.out.c
    obtain ⟨d0, d1, d2, d3, d4, d5, dz⟩ := hg.cells
    obtain ⟨f0, f1, f2, f3, f4, f5⟩ := hg.frozen
    have HG := hide hg
    clear hg
    generalize hw3 : w2.alloc (.cells #[.slice none 0 0] 48) = w3 at HT HG d0 d1 d2 d3 d4 d5 dz f0 f1 f2 f3 f4 f5
    have HW3 := hide hw3
    clear hw3
    go_upto_region 5 with fail
    rw [HW3.out]
    go_wp2_with fail
    exact bodyPost_ret (v := .tuple #[gz0.v, .int .i64 e]) (results_gr2 rfl _ rfl rfl (HG.out.store gz0)) rfl ⟨by rw [HR.out], HT.out.ext.gstore (by omega) gz0⟩
  case pos =>
  have HI := hide (fun W (hE : Ext w W) => inverse_ok l (permE_ok h2) h2 _ W (HU.out.ext hE))
  by_cases h3 : (l.length : Int) = g.n
  case neg =>
    have HR := hide (permuteS_n h1 h2 h3)
    have hd : ((l.length : Int) != g.n) = true := by simp [h3]
    generalize permuteS g l = res at HR ⊢
    clear h1 h2 h3
    go_enter Tryz.func52, Tryz.ntmps52
    go_wp2_with fail
    have HT := hide (PB.mk_ w g (.slice p l.length c))
    generalize ((w.alloc (gobj g)).alloc (.cells #[.slice p l.length c] 48)).alloc gobj0 = W at HT ⊢
    refine (HC.out _).mono ?_
    rintro r w1 ⟨rfl, hE⟩
    have HT := hide (HT.out.ext_ hE)
    clear hE
    have hs := HT.out.s.cell
    have hsz := HT.out.s.lt
    go_wp2_with fail
    refine (HI.out _ HT.out.ext).mono ?_
    rintro r w2 ⟨ub, rfl, hub, hE⟩
    obtain ⟨pb, cb, rfl, -, -, -⟩ := hub.int_all
    have HT := hide ((HT.out.ext_ hE).ext_ ((Ext.refl w2).alloc (.cells #[.slice pb (invL l l.length).length cb] 48)))
    clear hE hs hsz hub
    obtain ⟨g', hg⟩ := HT.out.c
    obtain ⟨d0, d1, d2, d3, d4, d5, dz⟩ := hg.cells
    obtain ⟨f0, f1, f2, f3, f4, f5⟩ := hg.frozen
    obtain ⟨a0, -⟩ := HT.out.g.cells
    have az := lt_of_heap HT.out.g
    have hs := HT.out.s.cell
    have hsz := HT.out.s.lt
    have HG := hide hg
    clear hg
    generalize hw3 : w2.alloc (.cells #[.slice pb (invL l l.length).length cb] 48) = w3 at HT HG d0 d1 d2 d3 d4 d5 dz f0 f1 f2 f3 f4 f5 a0 az hs hsz
    have HW3 := hide hw3
    clear hw3
    go_upto_region 5 with fail
    rw [HW3.out]
    go_wp2_with fail
    exact bodyPost_ret (v := .tuple #[gz0.v, .int .i64 22]) (results_gr2 rfl _ rfl rfl (HG.out.store gz0)) rfl ⟨by rw [HR.out], HT.out.ext.gstore (by omega) gz0⟩
  case pos =>
    have HR := hide (permuteS_0 h1 h2 h3)
    have hwf := wf_len h1 h3
    have HG1 : Hid (permG g l = mkG l.length (fun q => (imgN l (g.r (bkN l q)) l.length : Nat)) l.length) := rfl
    have HM := hide (made_any l.length hwf.n5 76)
    have HP := hide (fun q hq bp bg bk u ub W hbp hu hbg hbk hub => permute1_any g l hwf (permE_ok h2) h2 q hq bp bg bk u ub W hbp hu hbg hbk hub)
    have HN := hide hwf.n_eq
    have hd : ((l.length : Int) != (l.length : Int)) = false := by simp
    generalize permuteS g l = res at HR ⊢
    clear h1 h2 h3 hwf
    go_enter Tryz.func52, Tryz.ntmps52
    go_wp2_with fail
    have HT := hide (PB.mk_ w g (.slice p l.length c))
    generalize ((w.alloc (gobj g)).alloc (.cells #[.slice p l.length c] 48)).alloc gobj0 = W at HT ⊢
    refine (HC.out _).mono ?_
    rintro r w1 ⟨rfl, hE⟩
    have HT := hide (HT.out.ext_ hE)
    clear hE
    have hs := HT.out.s.cell
    have hsz := HT.out.s.lt
    go_wp2_with fail
    refine (HI.out _ HT.out.ext).mono ?_
    rintro r w2 ⟨ub, rfl, hub, hE⟩
    have HUB := hide (hub.ext ((Ext.refl w2).alloc (.cells #[ub] 48)))
    obtain ⟨pb, cb, rfl, -, -, -⟩ := hub.int_all
    have HT := hide ((HT.out.ext_ hE).ext_ ((Ext.refl w2).alloc (.cells #[.slice pb (invL l l.length).length cb] 48)))
    have HBK : Hid (Box (w2.alloc (.cells #[.slice pb (invL l l.length).length cb] 48)) w2.heap.size 48 (.slice pb (invL l l.length).length cb)) := Box.new _ _ _
    clear hE hs hsz hub
    obtain ⟨a0, -⟩ := HT.out.g.cells
    rw [HN.out] at a0
    have az := lt_of_heap HT.out.g
    have hs := HT.out.s.cell
    have hsz := HT.out.s.lt
    generalize hw3 : w2.alloc (.cells #[.slice pb (invL l l.length).length cb] 48) = w3 at HT HUB HBK a0 az hs hsz
    have HW3 := hide hw3
    clear hw3
    go_upto_region 5 with fail
    rw [HW3.out]
    generalize w2.heap.size = bk at HBK ⊢
    go_wp2_with fail
    refine (HM.out _ _ _ enters_pm1 (fun q W hq hE => by exact HP.out q hq _ _ _ _ _ W (HT.out.s.ext hE) (HU.out.ext (HT.out.ext.trans hE)) (HT.out.g.ext hE) (HBK.out.ext hE) (HUB.out.ext hE))).mono ?_
    rintro r w4 ⟨rfl, hE⟩
    rw [← HG1.out]
    have HT := hide (HT.out.ext_ hE)
    clear hE a0 az hs hsz
    obtain ⟨g', hg⟩ := HT.out.c
    obtain ⟨d0, d1, d2, d3, d4, d5, dz⟩ := hg.cells
    obtain ⟨f0, f1, f2, f3, f4, f5⟩ := hg.frozen
    have HG := hide hg
    clear hg
    generalize hr : permG g l = r at HR ⊢
    clear hr
    go_wp2_with fail
    exact bodyPost_ret (v := .tuple #[r.v, .int .i64 0]) (results_gr2 rfl _ rfl rfl (HG.out.store r)) rfl ⟨by rw [HR.out], HT.out.ext.gstore (by omega) r⟩
end Go.Proofs.YtdlhnpogddpmpaaGreat
