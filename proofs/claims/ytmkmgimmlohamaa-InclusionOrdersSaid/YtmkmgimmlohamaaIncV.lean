/-
  Simulations, plain: what Verify answers, and the map of known pairs.
  Conditions: none.
-/
import Derived.Test.YtmkmgimmlohamaaIncQ
import Derived.Test.YtmkmgimmlohamaaKRange
namespace Go.Proofs.Ytmkmgimmlohamaa
open Go.RowKit

def pcells (x : Int × Int) : List Value := [.int .i64 x.1, .int .i64 x.2]
theorem Row.pr_all {w : World} {v : Value} {ms : List (Int × Int)} (h : Row pcells 2 w v ms) :
    ∃ (p : Option Addr) (c : Nat), v = .slice p ms.length c ∧ ms.length ≤ c ∧ ms.length ≤ 17592186044416 ∧
      (0 < ms.length → ∃ b o, p = some ⟨b, o, none⟩ ∧ b < w.heap.size ∧ ∀ i, i < ms.length → ∀ W, Ext w W → W.cell? ⟨b, o + i * 2, none⟩ = some (.int .i64 (ms.getD i default).1) ∧ W.cell? ⟨b, o + i * 2 + 1, none⟩ = some (.int .i64 (ms.getD i default).2)) := by
  obtain ⟨p, c, hv, h2, h3, h4⟩ := h
  refine ⟨p, c, hv, h2, by omega, fun hl => ?_⟩
  obtain ⟨b, o, hp, hb, hc⟩ := h4 hl
  refine ⟨b, o, hp, hb, fun i hi W hE => ?_⟩
  have hx : ms[i]? = some (ms.getD i default) := by rw [List.getD_eq_getElem?_getD, List.getElem?_eq_getElem hi]; rfl
  have h0 := hc i _ hx 0 _ rfl
  have h1 := hc i _ hx 1 _ rfl
  rw [Nat.add_zero] at h0
  exact ⟨(hE.cell hb).trans h0, (hE.cell hb).trans h1⟩
/-- Each move of the state of B of a pair has one of the state of A that stays in the list. -/
def folB (A B : Adv) (prs : List (Int × Int)) (p : Int × Int) : Bool := (B.st.getD p.1.toNat []).all fun m => decide (0 ≤ toL (A.st.getD p.2.toNat []) m.r) && decide ((m.to, toL (A.st.getD p.2.toNat []) m.r) ∈ prs)
def inbB (A B : Adv) (p : Int × Int) : Bool := decide (0 ≤ p.1 ∧ p.1 < B.L ∧ 0 ≤ p.2 ∧ p.2 < A.L)
/-- What Verify answers. -/
def verS (A B : Adv) (prs : List (Int × Int)) : Int :=
  if bothI A B ≠ 0 then bothI A B else if 65536 < prs.length then 5 else if prs.all (inbB A B) = false then 2 else if ((0 : Int), (0 : Int)) ∉ prs then 18 else if prs.all (folB A B prs) = false then 18 else 0
/-- A step of the rounds of both that breaks a simulation. -/
def brk (prs : List (Int × Int)) (s : St) : Bool := decide (0 ≤ s.x) && (decide (s.y < 0) || !decide ((s.x, s.y) ∈ prs))
theorem fol_merge {A B : Adv} (hA : achk A = 0) (hB : achk B = 0) (prs : List (Int × Int)) (p : Int × Int) :
    folB A B prs p = (mergeS (B.st.getD p.1.toNat []) (A.st.getD p.2.toNat [])).all fun s => !brk prs s := by
  have oA := okM_of hA p.2.toNat
  have oB := okM_of hB p.1.toNat
  unfold folB
  generalize A.st.getD p.2.toNat [] = ys at oA
  generalize B.st.getD p.1.toNat [] = xs at oB
  rw [Bool.eq_iff_iff, List.all_eq_true, List.all_eq_true]
  constructor
  · intro h s hs
    obtain ⟨h1, h2, h3⟩ := (merge_mem xs ys oB oA s).1 hs
    unfold brk
    by_cases hx : 0 ≤ s.x
    · rw [h2] at hx
      obtain ⟨m, hm, hmr⟩ := (toL_ge oB s.r).1 hx
      have := h m hm
      rw [Bool.and_eq_true, decide_eq_true_eq, decide_eq_true_eq, hmr] at this
      obtain ⟨h4, h5⟩ := this
      have hmt : s.x = m.to := by rw [h2, ← hmr, toL_in oB hm]
      rw [hmt, h3, decide_eq_false (show ¬ toL ys s.r < 0 by omega), decide_eq_true h5]
      simp
    · rw [decide_eq_false hx]; rfl
  · intro h m hm
    have hs : (⟨m.r, toL xs m.r, toL ys m.r⟩ : St) ∈ mergeS xs ys := (merge_mem xs ys oB oA _).2 ⟨.inl ⟨m, hm, rfl⟩, rfl, rfl⟩
    have := h _ hs
    unfold brk at this
    simp only [toL_in oB hm] at this
    have h0 := oB.to m hm
    rw [decide_eq_true h0, Bool.true_and, Bool.not_eq_true', Bool.or_eq_false_iff, Bool.not_eq_false', decide_eq_false_iff_not, decide_eq_true_eq] at this
    rw [Bool.and_eq_true, decide_eq_true_eq, decide_eq_true_eq]
    exact ⟨by omega, this.2⟩
theorem verS_err {A B : Adv} {prs : List (Int × Int)} (h : bothI A B ≠ 0) : verS A B prs = bothI A B := if_pos h
theorem verS_many {A B : Adv} {prs : List (Int × Int)} (h : bothI A B = 0) (h1 : 65536 < prs.length) : verS A B prs = 5 := by unfold verS; rw [if_neg (fun k => k h), if_pos h1]
theorem verS_range {A B : Adv} {prs : List (Int × Int)} (h : bothI A B = 0) (h1 : ¬ 65536 < prs.length) {p : Int × Int} (hp : p ∈ prs) (hb : inbB A B p = false) : verS A B prs = 2 := by
  unfold verS
  rw [if_neg (fun k => k h), if_neg h1, if_pos]
  rw [List.all_eq_false]
  exact ⟨p, hp, by rw [hb]; decide⟩
theorem verS_start {A B : Adv} {prs : List (Int × Int)} (h : bothI A B = 0) (h1 : ¬ 65536 < prs.length) (h2 : ∀ p ∈ prs, inbB A B p = true) (h3 : ((0 : Int), (0 : Int)) ∉ prs) : verS A B prs = 18 := by
  unfold verS
  rw [if_neg (fun k => k h), if_neg h1, if_neg (by rw [List.all_eq_true.2 h2]; decide), if_pos h3]
theorem verS_proof {A B : Adv} {prs : List (Int × Int)} (h : bothI A B = 0) (h1 : ¬ 65536 < prs.length) (h2 : ∀ p ∈ prs, inbB A B p = true) (h3 : ((0 : Int), (0 : Int)) ∈ prs) {p : Int × Int} (hp : p ∈ prs) (hf : folB A B prs p = false) : verS A B prs = 18 := by
  unfold verS
  rw [if_neg (fun k => k h), if_neg h1, if_neg (by rw [List.all_eq_true.2 h2]; decide), if_neg (fun k => k h3), if_pos]
  rw [List.all_eq_false]
  exact ⟨p, hp, by rw [hf]; decide⟩
theorem verS_ok {A B : Adv} {prs : List (Int × Int)} (h : bothI A B = 0) (h1 : ¬ 65536 < prs.length) (h2 : ∀ p ∈ prs, inbB A B p = true) (h3 : ((0 : Int), (0 : Int)) ∈ prs) (hf : ∀ p ∈ prs, folB A B prs p = true) : verS A B prs = 0 := by
  unfold verS
  rw [if_neg (fun k => k h), if_neg h1, if_neg (by rw [List.all_eq_true.2 h2]; decide), if_neg (fun k => k h3), if_neg (by rw [List.all_eq_true.2 hf]; decide)]
/-- The map of the pairs that are known. -/
def knL (prs : List (Int × Int)) : List ((Int × Int) × Value) := prs.foldl (fun l p => kput l p (.bool true)) []
theorem knL_snoc (prs : List (Int × Int)) (p : Int × Int) : knL (prs ++ [p]) = kput (knL prs) p (.bool true) := by unfold knL; rw [List.foldl_append]; rfl
theorem klook_mem {κ : Type} [DecidableEq κ] {k : κ} : ∀ {l : List (κ × Value)}, klook l k ≠ none ↔ ∃ x ∈ l, x.1 = k
  | [] => by simp [klook]
  | (q, v) :: l => by
    have ih := klook_mem (k := k) (l := l)
    simp only [klook]
    by_cases h : k = q
    · rw [if_pos h]
      simp [h]
    · rw [if_neg h, ih]
      constructor
      · rintro ⟨x, hx, hk⟩; exact ⟨x, List.mem_cons_of_mem _ hx, hk⟩
      · rintro ⟨x, hx, hk⟩
        rcases List.mem_cons.1 hx with rfl | hx
        · exact absurd hk.symm h
        · exact ⟨x, hx, hk⟩
theorem knL_look0 (q : Int × Int) : ∀ (prs : List (Int × Int)) (l : List ((Int × Int) × Value)), klook (prs.foldl (fun l p => kput l p (.bool true)) l) q = if q ∈ prs then some (.bool true) else klook l q
  | [], l => by rw [if_neg (by simp)]; rfl
  | p :: prs, l => by
    rw [List.foldl_cons, knL_look0 q prs, klook_put]
    by_cases h2 : q ∈ prs
    · rw [if_pos h2, if_pos (by simp [h2])]
    · rw [if_neg h2]
      by_cases h : q = p
      · rw [if_pos h, if_pos (by simp [h])]
      · rw [if_neg h, if_neg (by simp [h, h2])]
theorem knL_look (q : Int × Int) (prs : List (Int × Int)) : klook (knL prs) q = if q ∈ prs then some (.bool true) else none := knL_look0 q prs []
theorem knL_mem {prs : List (Int × Int)} {q : Int × Int} : (∃ x ∈ knL prs, x.1 = q) ↔ q ∈ prs := by
  rw [← klook_mem, knL_look]
  by_cases h : q ∈ prs
  · rw [if_pos h]; simp [h]
  · rw [if_neg h]; simp [h]
theorem knL_get {prs : List (Int × Int)} (q : Int × Int) : (klook (knL prs) q).getD (.bool false) = .bool (decide (q ∈ prs)) := by
  rw [knL_look]
  by_cases h : q ∈ prs
  · rw [if_pos h, decide_eq_true h]; rfl
  · rw [if_neg h, decide_eq_false h]; rfl
end Go.Proofs.Ytmkmgimmlohamaa
