/-
  Permutations applied to sets and graphs (permutation.Inverse, Set, graph.Permute).
  Conditions: as each theorem states.
-/
import Derived.Test.YtfnhjalnbmnlaaaDoorPerm
import Derived.Test.YtfnhjalnbmnlaaaDoorGOps
import Derived.Test.YtfnhjalnbmnlaaaDoorGMeas
import Derived.Test.YtfnhjalnbmnlaaaDoorVecSeq
namespace Go.Proofs.YtfnhjalnbmnlaaaDoor
open Go.RowKit
attribute [local go_sem] Oper.semAt_some

/-- The inverse, its first i entries written. -/
def invL (l : List Int) : Nat → List Int
  | 0 => List.replicate l.length 0
  | i + 1 => (invL l i).set (l.getD i 0).toNat i
theorem invL_len (l : List Int) : ∀ i, (invL l i).length = l.length
  | 0 => by simp [invL]
  | i + 1 => by rw [invL, List.length_set, invL_len l i]
theorem PermOk.nat {l : List Int} (h : PermOk l) {i : Nat} (hi : i < l.length) : l.getD i 0 = ((l.getD i 0).toNat : Int) ∧ (l.getD i 0).toNat < l.length := by
  have := h.bd i hi; omega
theorem PermOk.inj' {l : List Int} (h : PermOk l) {i j : Nat} (hi : i < l.length) (hj : j < l.length) (he : (l.getD i 0).toNat = (l.getD j 0).toNat) : i = j := by
  have h1 := (h.nat hi).1
  have h2 := (h.nat hj).1
  rcases Nat.lt_trichotomy i j with h3 | h3 | h3
  · exact absurd (show l.getD i 0 = l.getD j 0 by omega) (h.inj j i hj h3)
  · exact h3
  · exact absurd (show l.getD j 0 = l.getD i 0 by omega) (h.inj i j hi h3)
theorem invL_at {l : List Int} (h : PermOk l) : ∀ i, i ≤ l.length → ∀ k, k < i → (invL l i).getD (l.getD k 0).toNat 0 = k
  | 0, _, k, hk => by omega
  | i + 1, hi, k, hk => by
    rw [invL, List.getD_eq_getElem?_getD, List.getElem?_set]
    by_cases e : (l.getD i 0).toNat = (l.getD k 0).toNat
    · have : i = k := h.inj' (by omega) (by omega) e
      subst this
      rw [if_pos rfl, if_pos (by rw [invL_len]; exact (h.nat (by omega)).2)]; rfl
    · rw [if_neg e, ← List.getD_eq_getElem?_getD]
      refine invL_at h i (by omega) k ?_
      rcases Nat.lt_or_ge k i with h1 | h1
      · exact h1
      · have : k = i := by omega
        subst this; exact absurd rfl e
/-- The permutation, as a function; its inverse. -/
def piN (l : List Int) (k : Nat) : Nat := (l.getD k 0).toNat
def bkN (l : List Int) (q : Nat) : Nat := ((invL l l.length).getD q 0).toNat
theorem bk_pi {l : List Int} (h : PermOk l) {k : Nat} (hk : k < l.length) : bkN l (piN l k) = k := by
  unfold bkN piN; rw [invL_at h _ (Nat.le_refl _) k hk]; rfl
/-- The image of a set. -/
def imgN (l : List Int) (s : Nat) : Nat → Nat := unionR (fun k => 2 ^ piN l k) s
theorem imgN_lt {l : List Int} (h : PermOk l) (s : Nat) : ∀ k, k ≤ l.length → imgN l s k < 2 ^ l.length
  | 0, _ => Nat.two_pow_pos _
  | k + 1, hk => by
    show imgN l s k ||| _ < _
    refine Nat.or_lt_two_pow (imgN_lt h s k (by omega)) ?_
    split
    · exact Nat.pow_lt_pow_right (by decide) (h.nat (by omega)).2
    · exact Nat.two_pow_pos _
theorem card_add : ∀ s, s < 32 → ∀ v, v < 5 → s.testBit v = false → cardN (s ||| 2 ^ v) = cardN s + 1 := by decide +kernel
theorem card_full : ∀ n, n ≤ 5 → ∀ s, s < 2 ^ n → cardN s = n → s = 2 ^ n - 1 := by decide +kernel
theorem img_card {l : List Int} (h : PermOk l) : ∀ k, k ≤ l.length → cardN (imgN l (2 ^ l.length - 1) k) = k
  | 0, _ => (show cardN 0 = 0 by decide)
  | k + 1, hk => by
    have hb : (2 ^ l.length - 1).testBit k = true := by rw [Nat.testBit_two_pow_sub_one, decide_eq_true_eq]; omega
    have hn := (h.nat (i := k) (by omega)).2
    have h5 := h.n5
    have hs : imgN l (2 ^ l.length - 1) (k + 1) = imgN l (2 ^ l.length - 1) k ||| 2 ^ piN l k := by
      show unionR _ _ (k + 1) = _
      rw [unionR, if_pos hb]; rfl
    rw [hs, card_add _ (Nat.lt_of_lt_of_le (imgN_lt h _ k (by omega)) (pow2_32 h5)) _ (by unfold piN; omega), img_card h k (by omega)]
    cases hc : (imgN l (2 ^ l.length - 1) k).testBit (piN l k) with
    | false => rfl
    | true =>
      obtain ⟨m, h1, _, h2⟩ := (unionR_bit _ _ _ k).1 hc
      have h3 : piN l m = piN l k := by simpa [Nat.testBit_two_pow] using h2
      have := h.inj' (by omega) (by omega) h3
      omega
/-- Every number is met. -/
theorem pi_surj {l : List Int} (h : PermOk l) {q : Nat} (hq : q < l.length) : ∃ k, k < l.length ∧ piN l k = q := by
  have hf := card_full _ h.n5 _ (imgN_lt h (2 ^ l.length - 1) _ (Nat.le_refl _)) (img_card h _ (Nat.le_refl _))
  have hb : (imgN l (2 ^ l.length - 1) l.length).testBit q = true := by rw [hf, Nat.testBit_two_pow_sub_one]; simpa using hq
  obtain ⟨m, h1, _, h2⟩ := (unionR_bit _ _ _ _).1 hb
  exact ⟨m, h1, by simpa [Nat.testBit_two_pow] using h2⟩
theorem pi_bk {l : List Int} (h : PermOk l) {q : Nat} (hq : q < l.length) : piN l (bkN l q) = q ∧ bkN l q < l.length := by
  obtain ⟨k, hk, rfl⟩ := pi_surj h hq
  rw [bk_pi h hk]; exact ⟨rfl, hk⟩
theorem img_bit {l : List Int} (s q : Nat) : (imgN l s l.length).testBit q = true ↔ ∃ k, k < l.length ∧ s.testBit k = true ∧ piN l k = q := by
  unfold imgN
  rw [unionR_bit]
  simp only [Nat.testBit_two_pow, decide_eq_true_eq]
def permG (g : Gr) (l : List Int) : Gr := natG l.length fun q => imgN l (g.r (bkN l q)) l.length
theorem perm_wf {g : Gr} {l : List Int} (hg : Wf g l.length) (h : PermOk l) : Wf (permG g l) l.length := by
  refine natG_wf h.n1 h.n5 (fun p _ => imgN_lt h _ _ (Nat.le_refl _)) fun p hp => ?_
  rw [img_bit]
  obtain ⟨h1, h2⟩ := pi_bk h hp
  exact ⟨bkN l p, h2, hg.own _ h2, h1⟩
theorem perm_bit {g : Gr} {l : List Int} (hg : Wf g l.length) (h : PermOk l) {p q : Nat} (hp : p < l.length) (hq : q < l.length) : ((permG g l).r (piN l p)).testBit (piN l q) = (g.r p).testBit q := by
  have hpp : piN l p < l.length := (h.nat hp).2
  unfold permG
  rw [natG_r _ _ hg.n5, if_pos hpp, bk_pi h hp, Bool.eq_iff_iff, img_bit]
  constructor
  · rintro ⟨k, hk, h1, h2⟩
    have : k = q := h.inj' hk hq h2
    subst this; exact h1
  · intro h1; exact ⟨q, hq, h1, rfl⟩
def permuteS (g : Gr) (l : List Int) : Gr × Int := if gchk g ≠ 0 then (gz0, gchk g) else if permE l ≠ 0 then (gz0, permE l) else if (l.length : Int) ≠ g.n then (gz0, 22) else (permG g l, 0)

theorem info_int : (Tryd.prog.info? 3).map (fun i => (i.zero, i.size, i.bytes)) = some (some (.int .i64 0), 1, 8) := int_info
/-- A new slice that holds a list, and an error. -/
def RetL (L : List Int) (w : World) (u : Value) (w' : World) : Prop := Row icells 1 w' u L ∧ (∀ a n c, u = .slice (some a) n c → w.heap.size ≤ a.block) 
set_option maxRecDepth 16000 in
set_option maxHeartbeats 1000000 in
theorem inverse_ok (l : List Int) (h : PermOk l) (hE0 : permE l = 0) (u : Value) (w : World) (hl : Row icells 1 w u l) : Calls Tryd.prog 64 #[u] w (RetV2 (fun u w' => Row icells 1 w' u (invL l l.length)) 0 w) := by
  have HC := hide (fun W (hE : Ext w W) => pmcheck_any l u W (hl.ext hE))
  rw [hE0] at HC
  obtain ⟨p, c, rfl, hc, hlen, hat⟩ := hl.int_all
  have HAT := hide hat
  have HI := hide (fun i => show invL l (i + 1) = (invL l i).set (l.getD i 0).toNat i from rfl)
  have HI0 := hide (show invL l 0 = List.replicate l.length 0 from rfl)
  have HIL := hide (invL_len l)
  have HNAT := hide (fun i hi => h.nat (i := i) hi)
  have h5 := h.n5
  have h1 := h.n1
  have hmk := fun W => make_ints (P := Tryd.prog) 27 3 Tryd.underlying27 int_info l.length h5 W
  generalize invL l = iv at HI HI0 HIL ⊢
  clear hl hat h hE0
  go_enter Tryd.func64, Tryd.ntmps64
  go_wp2_with fail
  refine (HC.out _ (Ext.refl _)).mono ?_
  rintro e w1 ⟨rfl, hE⟩
  have HE := hide hE
  clear hE
  go_wp2_with fail
  have HN : Hid (Nums (w1.alloc (.cells (vals (List.replicate l.length 0)) 3)) w1.heap.size (iv 0)) := by
    show Nums _ _ _; rw [HI0.out]; exact heap_alloc_new w1 _
  have HE2 := hide (HE.out.alloc (.cells (vals (List.replicate l.length 0)) 3))
  have HZ := hide HE.out.size
  generalize w1.alloc (.cells (vals (List.replicate l.length 0)) 3) = W at HN HE2 ⊢
  generalize w1.heap.size = bb at HN HZ ⊢
  clear hmk
  go_loopw [18] (fun x V => ∃ i : Nat, i ≤ l.length ∧ x = .int .i64 i ∧ Hid (Ext w V) ∧ Hid (Nums V bb (iv i))) (fun x _ => l.length - (intOf x).toNat)
  case atStart => exact ⟨0, by omega, rfl, HE2, HN⟩
  case round =>
    clear HN HE2 HE
    obtain ⟨i, hi, rfl, HE, HN⟩ := hrel
    by_cases hlt : i < l.length
    · obtain ⟨b, o, rfl, hb, hat⟩ := HAT.out (by omega)
      have hx := hat i hlt _ HE.out
      have hbz : b < wr.heap.size := Nat.lt_of_lt_of_le hb HE.out.size
      obtain ⟨hxn, hxl⟩ := HNAT.out i hlt
      have HI2 := hide (HI.out i)
      generalize (l.getD i 0).toNat = v at hxn hxl HI2
      rw [hxn] at hx
      have hv5 : (v : Int) < 5 := by omega
      have hcv := HN.out.at_ (j := v) (by rw [HIL.out]; exact hxl)
      have hfz : wr.frozen? ⟨bb, v, none⟩ = false := frozen_of HN.out
      have hbb := lt_of_heap HN.out
      have HSET := hide (HN.out.set v (i : Int))
      rw [← HI2.out] at HSET
      have HE2 := hide (HE.out.setCell (p := ⟨bb, v, none⟩) HZ.out (.int .i64 i))
      clear hat hxn
      go_wp2_with fail
      go_roundw
      case rel => exact ⟨i + 1, by omega, by go_num, HE2, HSET⟩
      case measure => simp [intOf]; omega
    · obtain rfl : i = l.length := by omega
      have hrow := HN.out.row (by rw [HIL.out]; omega)
      rw [HIL.out] at hrow
      have HROW := hide hrow
      clear hrow
      go_wp2_with fail
      go_ret2
      exact ⟨_, rfl, HROW.out, HE.out⟩
theorem shl_pow (c : Bool) (k : Nat) (hk : k < 5) : wrap64 (((if c then 1 else 0 : Nat) : Int) * 2 ^ k) = ((if c then 2 ^ k else 0 : Nat) : Int) := shl_bit c k (by omega)
theorem and1_bit (x p : Nat) : (x >>> p &&& 1) = if x.testBit p then 1 else 0 := by
  rw [Nat.and_one_is_mod, Nat.testBit_eq_decide_div_mod_eq, Nat.shiftRight_eq_div_pow]
  by_cases h : x / 2 ^ p % 2 = 1
  · simp [h]
  · simp [h]; omega
theorem pow_len (n : Nat) (h1 : 1 ≤ n) (h5 : n ≤ 5) : wrap64 (2 ^ n) = ((2 ^ n : Nat) : Int) := by
  obtain rfl | rfl | rfl | rfl | rfl : n = 1 ∨ n = 2 ∨ n = 3 ∨ n = 4 ∨ n = 5 := by omega
  all_goals kernel_rfl
set_option maxRecDepth 16000 in
set_option maxHeartbeats 1000000 in
theorem set_ok (l : List Int) (h : PermOk l) (hE0 : permE l = 0) (s : Nat) (hs : s < 2 ^ l.length) (u : Value) (w : World) (hl : Row icells 1 w u l) :
    Calls Tryd.prog 35 #[u, .int .i64 s] w (RetV1 (.int .i64 (imgN l s l.length : Nat), 0) w) := by
  have HC := hide (fun W (hE : Ext w W) => pmcheck_any l u W (hl.ext hE))
  rw [hE0] at HC
  obtain ⟨p, c, rfl, hc, hlen, hat⟩ := hl.int_all
  have HAT := hide hat
  have HI := hide (fun i => show imgN l s (i + 1) = imgN l s i ||| (if s.testBit i then 2 ^ (l.getD i 0).toNat else 0) from rfl)
  have HI0 := hide (show imgN l s 0 = 0 from rfl)
  have HIL := hide (fun i (hi : i ≤ l.length) => Nat.lt_of_lt_of_le (imgN_lt h s i hi) (pow2_32 h.n5))
  have HNAT := hide (fun i hi => h.nat (i := i) hi)
  have h5 := h.n5
  have h1 := h.n1
  have hs32 : s < 32 := Nat.lt_of_lt_of_le hs (pow2_32 h5)
  have hpl := pow_len _ h1 h5
  have hd2 : decide (((2 ^ l.length : Nat) : Int) ≤ (s : Int)) = false := by simp only [decide_eq_false_iff_not]; omega
  have hd3 : ¬ (((2 ^ l.length : Nat) : Int) ≤ (s : Int)) := by omega
  generalize 2 ^ l.length = M at hpl hd2 hd3
  generalize imgN l s = im at HI HI0 HIL ⊢
  clear hl hat h hE0 hs
  go_enter Tryd.func35, Tryd.ntmps35
  go_wp2_with fail
  refine (HC.out _ (Ext.refl _)).mono ?_
  rintro e w1 ⟨rfl, hE⟩
  have HE := hide hE
  clear hE
  go_wp2_with fail
  clear hpl hd2 hd3
  go_loop [7, 26] (fun o x => ∃ i : Nat, i ≤ l.length ∧ x = .int .i64 i ∧ o = .int .i64 (im i : Nat)) (fun _ x => l.length - (intOf x).toNat)
  case atStart => exact ⟨0, by omega, rfl, by rw [HI0.out]; rfl⟩
  case round =>
    obtain ⟨i, hi, rfl, rfl⟩ := hrel
    by_cases hlt : i < l.length
    · obtain ⟨b, o, rfl, hb, hat⟩ := HAT.out (by omega)
      have hx := hat i hlt _ HE.out
      have hbz : b < w1.heap.size := Nat.lt_of_lt_of_le hb HE.out.size
      obtain ⟨hxn, hxl⟩ := HNAT.out i hlt
      have hi2 := HI.out i
      have hil := HIL.out i (by omega)
      generalize (l.getD i 0).toNat = v at hxn hxl hi2
      rw [hxn] at hx
      have hi5 : (i : Int) < 5 := by omega
      have hv5 : (v : Int) < 5 := by omega
      have h1 := shr1 (p := i) hs32
      have hsh : wrap64 (((s >>> i &&& 1 : Nat) : Int) * 2 ^ v) = ((if s.testBit i then 2 ^ v else 0 : Nat) : Int) := by rw [and1_bit]; exact shl_pow _ v (by omega)
      have hsm : (if s.testBit i then 2 ^ v else 0) ≤ 32 := by split; exact pow2_32 (by omega); omega
      have hor := i64_or_nat (im i) (if s.testBit i then 2 ^ v else 0) (Nat.lt_of_lt_of_le hil (by decide)) (Nat.lt_of_le_of_lt hsm (by decide))
      rw [← hi2] at hor
      have HI2 := hide hi2
      generalize (if s.testBit i then 2 ^ v else 0) = y at hsh hor hsm
      generalize (s >>> i &&& 1) = bit at *
      generalize im i = x0 at *
      clear hat hxn hi2
      go_wp2_with fail
      go_round
      case rel => exact ⟨i + 1, by omega, by go_num, rfl⟩
      case measure => simp [intOf]; omega
    · obtain rfl : i = l.length := by omega
      go_wp2_with fail
      go_ret2
      exact ⟨rfl, HE.out⟩
end Go.Proofs.YtfnhjalnbmnlaaaDoor
