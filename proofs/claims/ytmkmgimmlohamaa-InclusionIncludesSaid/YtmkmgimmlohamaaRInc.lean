/-
  The reference's Includes, less of law 20.
  Conditions: as each theorem states.
-/
import Derived.Test.YtmkmgimmlohamaaRFirst
namespace Go.Proofs.Ytmkmgimmlohamaa
open Go.RowKit
attribute [local go_sem] Oper.semAt_some

/-- What Includes tells. -/
def InT (A B : Adv) (w : World) (en : Ending) (w' : World) : Prop :=
  ∃ x b word, en = .returned (.tuple #[x, .bool b, .int .i64 (bothI A B)]) ∧ Ext w w' ∧ Row Rd.cells 7 w' x word ∧
    ((bothI A B ≠ 0 ∧ b = false ∧ word = []) ∨ (bothI A B = 0 ∧ b = true ∧ word = [] ∧ Inc A B) ∨
      (bothI A B = 0 ∧ b = false ∧ lackW A B word ∧ ∀ u, lackW A B u → Wle word u))
/-- One word and one answer. -/
theorem inT_same {A B : Adv} {b c : Bool} {x y : List Rd}
    (h : (bothI A B ≠ 0 ∧ b = false ∧ x = []) ∨ (bothI A B = 0 ∧ b = true ∧ x = [] ∧ Inc A B) ∨ (bothI A B = 0 ∧ b = false ∧ lackW A B x ∧ ∀ u, lackW A B u → Wle x u))
    (k : (bothI A B ≠ 0 ∧ c = false ∧ y = []) ∨ (bothI A B = 0 ∧ c = true ∧ y = [] ∧ Inc A B) ∨ (bothI A B = 0 ∧ c = false ∧ lackW A B y ∧ ∀ u, lackW A B u → Wle y u)) : b = c ∧ x = y := by
  rcases h with ⟨h0, rfl, rfl⟩ | ⟨h0, rfl, rfl, h1⟩ | ⟨h0, rfl, h1, h2⟩ <;> rcases k with ⟨k0, rfl, rfl⟩ | ⟨k0, rfl, rfl, k1⟩ | ⟨k0, rfl, k1, k2⟩
  · exact ⟨rfl, rfl⟩
  · exact absurd k0 h0
  · exact absurd k0 h0
  · exact absurd h0 k0
  · exact ⟨rfl, rfl⟩
  · exact (inc_lack.1 h1 y k1).elim
  · exact absurd h0 k0
  · exact (inc_lack.1 k1 x h1).elim
  · exact ⟨rfl, least_eq (P := fun u => lackW A B u) h1 h2 k1 k2⟩
/-- The program's Includes. -/
theorem inT_of {A B : Adv} {w : World} {en : Ending} {w' : World} (h : RetIn dI A B w en w') : InT A B w en w' := by
  by_cases h0 : bothI A B = 0
  · have hA := (bothI_zero h0).1
    have hB := (bothI_zero h0).2.1
    obtain ⟨x, b, rfl, hE, (⟨k, _⟩ | ⟨_, rfl, word, hr, _, hm, hle⟩ | ⟨_, rfl, rfl, hn⟩)⟩ := h
    · exact absurd h0 k
    · exact ⟨x, false, word, rfl, hE, hr, .inr (.inr ⟨h0, rfl, (markI hA hB word).1 hm, fun u hu => hle u ((markI hA hB u).2 hu)⟩)⟩
    · exact ⟨_, true, [], rfl, hE, Row.nil _ _ _, .inr (.inl ⟨h0, rfl, rfl, inc_lack.2 fun u hu => hn u ((markI hA hB u).2 hu)⟩)⟩
  · obtain ⟨x, b, rfl, hE, (⟨_, rfl, rfl⟩ | ⟨k, _⟩ | ⟨k, _⟩)⟩ := h
    · exact ⟨_, false, [], rfl, hE, Row.nil _ _ _, .inl ⟨h0, rfl, rfl⟩⟩
    · exact absurd k h0
    · exact absurd k h0
set_option maxRecDepth 16000 in
set_option maxHeartbeats 4000000 in
theorem rincludes_any (A B : Adv) (u v : Value) (w : World) (hA : AdvRep w u A) (hB : AdvRep w v B) :
    Calls Try.prog 13 #[u, v] w (InT A B w) := by
  have HBO := hide (fun W (hE : Ext w W) => rboth_any A B u v W (hA.ext hE) (hB.ext hE))
  have HFI := hide (fun W (hE : Ext w W) (h : bothI A B = 0) => rfirst_any A B u v W (hA.ext hE) (hB.ext hE) (bothI_zero h).1 (bothI_zero h).2.1)
  obtain ⟨p, c, rfl, -⟩ := hA.all_
  obtain ⟨q, d, rfl, -⟩ := hB.all_
  clear hA hB
  obtain ⟨bo, hbo⟩ : ∃ bo, bothI A B = bo := ⟨_, rfl⟩
  rw [hbo] at HBO
  have HBOE := hide hbo
  clear hbo
  have HN := hide (TwoBox.new A B p c q d w)
  have HE1 := hide (((Ext.refl w).alloc (.cells #[.int .i64 A.n, .slice p A.L c] 24)).alloc (.cells #[.int .i64 B.n, .slice q B.L d] 24))
  obtain ⟨W1, hW1⟩ : ∃ W1, (w.alloc (.cells #[.int .i64 A.n, .slice p A.L c] 24)).alloc (.cells #[.int .i64 B.n, .slice q B.L d] 24) = W1 := ⟨_, rfl⟩
  rw [hW1] at HN HE1
  have HW1 := hide hW1
  clear hW1
  go_enter Try.func13, Try.ntmps13
  obtain ⟨z, hz⟩ : ∃ z, w.heap.size = z := ⟨_, rfl⟩
  rw [hz] at HN
  go_wp2_with fail
  rw [HW1.out]
  refine (HBO.out W1 HE1.out).mono ?_
  rintro e w2 ⟨rfl, hE2⟩
  have HN2 := hide (HN.out.ext hE2)
  have HE2 := hide (HE1.out.trans hE2)
  clear hE2 HN HE1 HW1 hz
  by_cases hbo : bo = 0
  case neg =>
    have d1 : decide (bo = 0) = false := decide_eq_false hbo
    have hne : (bo != 0) = true := by simpa using hbo
    go_wp2_with fail
    go_ret3
    exact ⟨_, false, [], by rw [HBOE.out]; rfl, HE2.out, Row.nil _ _ _, .inl ⟨by rw [HBOE.out]; exact hbo, rfl, rfl⟩⟩
  subst hbo
  obtain ⟨z0, a0, a1, z1, b0, b1⟩ := HN2.out.cells
  go_wp2_with fail
  refine (HFI.out w2 HE2.out HBOE.out).mono ?_
  rintro e w3 ⟨x, bx, wx, rfl, hE3, hrx, hx⟩
  have HE3 := hide (HE2.out.trans hE3)
  have HRX := hide hrx
  have HX := hide hx
  obtain ⟨px, cx, rfl, -⟩ := hrx
  clear hE3 hx z0 a0 a1 z1 b0 b1
  have HG : Hid (InT A B w (.returned (.tuple #[.slice px wx.length cx, .bool (!bx), .int .i64 0])) w3) :=
    ⟨_, !bx, wx, by rw [HBOE.out], HE3.out, HRX.out, by
      rcases HX.out with ⟨rfl, h1, h2⟩ | ⟨rfl, h1, h2⟩
      · exact .inr (.inr ⟨HBOE.out, rfl, h1, h2⟩)
      · exact .inr (.inl ⟨HBOE.out, rfl, h1, h2⟩)⟩
  clear HX
  cases bx <;>
  · go_wp2_with fail
    go_ret3
    exact HG.out
/-- The order of pairs. -/
def lessB (x y : Int × Int) : Bool := decide (x.1 < y.1) || (decide (x.1 = y.1) && decide (x.2 < y.2))
theorem lessB_iff (x y : Int × Int) : lessB x y = true ↔ plt x y := by
  unfold lessB plt
  simp only [Bool.or_eq_true, Bool.and_eq_true, decide_eq_true_eq]
set_option maxRecDepth 16000 in
theorem rless_any (a b c d : Int) (w : World) :
    Calls Try.prog 59 #[.agg #[.int .i64 a, .int .i64 b], .agg #[.int .i64 c, .int .i64 d]] w fun e w' => e = .returned (.bool (lessB (a, b) (c, d))) ∧ Ext w w' := by
  have hE : Ext w ((w.alloc (.cells #[.int .i64 a, .int .i64 b] 45)).alloc (.cells #[.int .i64 c, .int .i64 d] 45)) := ((Ext.refl w).alloc _).alloc _
  have HL : Hid (lessB (a, b) (c, d) = (decide (a < c) || (decide (a = c) && decide (b < d)))) := rfl
  generalize lessB (a, b) (c, d) = res at HL ⊢
  go_enter Try.func59, Try.ntmps59
  by_cases h1 : a < c
  · have d1 : decide (a < c) = true := decide_eq_true h1
    obtain rfl : res = true := by rw [HL.out, d1]; rfl
    go_wp2_with fail
    go_ret
    exact ⟨rfl, hE⟩
  · have d1 : decide (a < c) = false := decide_eq_false h1
    by_cases h2 : a = c
    · subst h2
      obtain rfl : res = decide (b < d) := by rw [HL.out, d1, decide_eq_true rfl]; rfl
      clear HL
      cases d3 : decide (b < d) <;>
      · go_wp2_with fail
        go_ret
        exact ⟨rfl, hE⟩
    · have d2 : decide (a = c) = false := decide_eq_false h2
      have d3 : (a == c) = false := by simpa using h2
      obtain rfl : res = false := by rw [HL.out, d1, d2]; rfl
      go_wp2_with fail
      go_ret
      exact ⟨rfl, hE⟩
/-- A new pair put in its place. -/
theorem ins_asc {l : List (Int × Int)} {x : Int × Int} {k : Nat} (hl : l.Pairwise plt) (hx : x ∉ l) (hk : k ≤ l.length) (h1 : ∀ j (_ : k ≤ j) (h : j < l.length), plt x l[j]) (h2 : ∀ (_ : 0 < k) (h : k - 1 < l.length), ¬ plt x l[k - 1]) :
    (l.take k ++ [x] ++ l.drop k).Pairwise plt := by
  have hd : ∀ y ∈ l.drop k, plt x y := fun y hy => by
    obtain ⟨j, hj, rfl⟩ := List.getElem_of_mem hy
    rw [List.length_drop] at hj
    rw [List.getElem_drop]
    exact h1 (k + j) (by omega) (by omega)
  have ht : ∀ y ∈ l.take k, plt y x := fun y hy => by
    obtain ⟨j, hj, rfl⟩ := List.getElem_of_mem hy
    rw [List.length_take] at hj
    rw [List.getElem_take]
    have hk1 : k - 1 < l.length := by omega
    have hn := h2 (by omega) hk1
    have hne : l[k - 1] ≠ x := fun e => hx (e ▸ List.getElem_mem hk1)
    have hlast : plt l[k - 1] x := by
      rcases plt_total x l[k - 1] with h | h | h
      · exact absurd h hn
      · exact absurd h.symm hne
      · exact h
    by_cases hj2 : j = k - 1
    · subst hj2; exact hlast
    · exact plt_trans (List.pairwise_iff_getElem.1 hl j (k - 1) (by omega) hk1 (by omega)) hlast
  rw [List.append_assoc, List.pairwise_append]
  refine ⟨hl.sublist (List.take_sublist _ _), ?_, ?_⟩
  · rw [List.singleton_append, List.pairwise_cons]
    exact ⟨hd, hl.sublist (List.drop_sublist _ _)⟩
  · intro a ha b hb
    rw [List.singleton_append] at hb
    rcases List.mem_cons.1 hb with rfl | hb
    · exact ht a ha
    · exact plt_trans (ht a ha) (hd b hb)
theorem ins_mem {l : List (Int × Int)} {x y : Int × Int} {k : Nat} : y ∈ l.take k ++ [x] ++ l.drop k ↔ y ∈ l ∨ y = x := by
  conv => rhs; rw [← List.take_append_drop k l]
  simp only [List.mem_append, List.mem_singleton]
  constructor
  · rintro ((h | h) | h)
    · exact .inl (.inl h)
    · exact .inr h
    · exact .inl (.inr h)
  · rintro ((h | h) | h)
    · exact .inl (.inl h)
    · exact .inr h
    · exact .inl (.inr h)
theorem ins_len {l : List (Int × Int)} {x : Int × Int} {k : Nat} (hk : k ≤ l.length) : (l.take k ++ [x] ++ l.drop k).length = l.length + 1 := by
  simp only [List.length_append, List.length_take, List.length_drop, List.length_singleton]
  omega
end Go.Proofs.Ytmkmgimmlohamaa
