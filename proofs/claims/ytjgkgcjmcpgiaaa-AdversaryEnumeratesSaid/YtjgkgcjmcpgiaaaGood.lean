/-
  'good' of chapter 16's laws, and what it says.
  Conditions: none.
-/
import Derived.Test.YtjgkgcjmcpgiaaaLawC
namespace Go.Proofs.Ytjgkgcjmcpgiaaa

theorem flatMap_ext {α β : Type} {l : List α} {f g : α → List β} (h : ∀ x ∈ l, f x = g x) : l.flatMap f = l.flatMap g := by
  induction l with
  | nil => rfl
  | cons x l ih => rw [List.flatMap_cons, List.flatMap_cons, h x (by simp), ih fun y hy => h y (by simp [hy])]
theorem mv_to {A : Adv} (h : achk A = 0) {s i : Nat} (hs : s < A.L) (hi : i < A.len s) : 0 ≤ (A.mv s i).to ∧ (A.mv s i).to < A.L := by
  have := sound_of (achk_zero h).2.2.2.2.2.1 s hs i hi
  exact ⟨this.1, this.2.1⟩
theorem len_pos {A : Adv} (h : achk A = 0) {s : Nat} (hs : s < A.L) : 0 < A.len s := by
  have := (stErr_zero ((achk_zero h).2.2.2.2.2.1 s hs)).1
  omega
theorem toL_mv {A : Adv} (h : achk A = 0) {s i : Nat} (hs : s < A.L) (hi : i < A.len s) : toL (A.st.getD s []) (A.mv s i).r = (A.mv s i).to := by
  refine toL_at hi (fun j hj => ?_) (req_iff.2 rfl)
  cases hq : req ((A.st.getD s []).getD j default).r (A.mv s i).r
  · rfl
  · exact absurd (req_iff.1 hq) (rcmp_lt_ne (asc_of h hs i hi j hj))
theorem after_mv {A : Adv} (h : achk A = 0) {s i : Nat} (hs : s < A.L) (hi : i < A.len s) (w : List Rd) : after A s ((A.mv s i).r :: w) = after A (A.mv s i).to.toNat w := by
  simp only [after]
  rw [if_neg (by omega), Int.toNat_natCast, toL_mv h hs hi, Int.toNat_of_nonneg (mv_to h hs hi).1]
theorem after_append (A : Adv) (y : List Rd) : ∀ (x : List Rd) (s : Int), after A s (x ++ y) = after A (after A s x) y
  | [], _ => rfl
  | r :: x, s => by
    rw [List.cons_append]
    simp only [after]
    by_cases hs : s < 0
    · rw [if_pos hs, if_pos hs, after_neg hs]
    · rw [if_neg hs, if_neg hs]; exact after_append A y x _
theorem after_lt {A : Adv} (h : achk A = 0) {s : Nat} (hs : s < A.L) {x : List Rd} (h0 : 0 ≤ after A s x) : (after A s x).toNat < A.L := by
  have := after_range h x s (.inr ⟨by omega, by omega⟩)
  omega
theorem mem_fromS {A : Adv} {k s : Nat} {x : List Rd} : x ∈ fromS A (k + 1) s ↔ ∃ i, i < A.len s ∧ ∃ y ∈ fromS A k (A.mv s i).to.toNat, (A.mv s i).r :: y = x := by
  simp only [fromS, List.mem_flatMap, List.mem_range, List.mem_map]
theorem words_after {A : Adv} (h : achk A = 0) : ∀ (k s : Nat), s < A.L → ∀ x ∈ fromS A k s, 0 ≤ after A s x
  | 0, s, _, x, hx => by simp only [fromS, List.mem_singleton] at hx; subst hx; simp only [after]; omega
  | k + 1, s, hs, x, hx => by
    obtain ⟨i, hi, y, hy, rfl⟩ := mem_fromS.1 hx
    rw [after_mv h hs hi]
    exact words_after h k _ (by have := mv_to h hs hi; omega) y hy
theorem words_has {A : Adv} (h : achk A = 0) : ∀ (x : List Rd) (s : Nat), s < A.L → 0 ≤ after A s x → x ∈ fromS A x.length s
  | [], s, _, _ => by simp [fromS]
  | r :: x, s, hs, h0 => by
    rw [List.length_cons, mem_fromS]
    have h1 : after A s (r :: x) = after A (toL (A.st.getD s []) r) x := by
      simp only [after]; rw [if_neg (by omega), Int.toNat_natCast]
    rw [h1] at h0
    rcases toL_mem (ms := A.st.getD s []) (r := r) with h2 | ⟨i, hi, hr, ht⟩
    · rw [h2, after_neg (by decide)] at h0; exact absurd h0 (by decide)
    · have hm := mv_to h hs (i := i) hi
      rw [ht] at h0
      have e : ((A.mv s i).to.toNat : Int) = (A.mv s i).to := Int.toNat_of_nonneg hm.1
      refine ⟨i, hi, x, words_has h x _ (by omega) (by rw [e]; exact h0), ?_⟩
      exact congrArg (· :: x) hr
theorem words_iff {A : Adv} (h : achk A = 0) (x : List Rd) : x ∈ fromS A x.length 0 ↔ 0 ≤ after A 0 x :=
  ⟨fun hx => words_after h _ 0 (by have := (achk_zero h).2.2.1; omega) x hx, fun hx => words_has h x 0 (by have := (achk_zero h).2.2.1; omega) hx⟩
theorem words_pos {A : Adv} (h : achk A = 0) : ∀ (k s : Nat), s < A.L → 1 ≤ (fromS A k s).length
  | 0, _, _ => Nat.le_refl 1
  | k + 1, s, hs => by
    have hp := len_pos h hs
    have hm := mv_to h hs (i := 0) hp
    obtain ⟨y, hy⟩ := List.exists_mem_of_length_pos (words_pos h k (A.mv s 0).to.toNat (by omega))
    exact List.length_pos_of_mem (mem_fromS.2 ⟨0, hp, y, hy, rfl⟩)

/-- The words that begin with w and have one round more. -/
def more (A : Adv) (s : Nat) (w : List Rd) : List (List Rd) := (List.range (A.len (after A s w).toNat)).map fun i => w ++ [(A.mv (after A s w).toNat i).r]
theorem fromS_snoc {A : Adv} (h : achk A = 0) : ∀ (k s : Nat), s < A.L → fromS A (k + 1) s = (fromS A k s).flatMap (more A s)
  | 0, s, hs => by
    simp only [fromS, List.flatMap_singleton, more, after, Int.toNat_natCast, List.map_singleton, List.nil_append]
    exact (List.map_eq_flatMap ..).symm
  | k + 1, s, hs => by
    show (List.range (A.len s)).flatMap (fun i => (fromS A (k + 1) (A.mv s i).to.toNat).map ((A.mv s i).r :: ·)) = ((List.range (A.len s)).flatMap fun i => (fromS A k (A.mv s i).to.toNat).map ((A.mv s i).r :: ·)).flatMap (more A s)
    rw [List.flatMap_assoc]
    refine flatMap_ext fun i hi => ?_
    have hi' : i < A.len s := List.mem_range.1 hi
    have ht : (A.mv s i).to.toNat < A.L := by have := mv_to h hs hi'; omega
    rw [fromS_snoc h k _ ht, List.map_flatMap, List.flatMap_map]
    refine flatMap_ext fun w hw => ?_
    show (more A (A.mv s i).to.toNat w).map ((A.mv s i).r :: ·) = more A s ((A.mv s i).r :: w)
    unfold more
    rw [after_mv h hs hi', List.map_map]
    rfl
theorem more_len {A : Adv} (h : achk A = 0) {s : Nat} (hs : s < A.L) {k : Nat} {w : List Rd} (hw : w ∈ fromS A k s) : 1 ≤ (more A s w).length := by
  unfold more
  rw [List.length_map, List.length_range]
  exact len_pos h (after_lt h hs (words_after h k s hs w hw))
theorem flatMap_more {α β : Type} {f : α → List β} : ∀ {l : List α}, (∀ x ∈ l, 1 ≤ (f x).length) → l.length ≤ (l.flatMap f).length
  | [], _ => Nat.le_refl 0
  | x :: l, h => by
    rw [List.flatMap_cons, List.length_append, List.length_cons]
    have h1 := h x (by simp)
    have h2 := flatMap_more (l := l) fun y hy => h y (by simp [hy])
    omega
theorem words_mono {A : Adv} (h : achk A = 0) (k : Nat) {s : Nat} (hs : s < A.L) : (fromS A k s).length ≤ (fromS A (k + 1) s).length := by
  rw [fromS_snoc h k s hs]
  exact flatMap_more fun w hw => more_len h hs hw

/-- The order of words. -/
def ordL : List Rd → List Rd → Int
  | [], [] => 0
  | [], _ :: _ => -1
  | _ :: _, [] => 1
  | a :: x, b :: y => if rcmp a b = 0 then ordL x y else rcmp a b
theorem ordL_self : ∀ x : List Rd, ordL x x = 0
  | [] => rfl
  | a :: x => by simp only [ordL]; rw [if_pos (rcmp_self a)]; exact ordL_self x
theorem words_asc {A : Adv} (h : achk A = 0) : ∀ (k s : Nat), s < A.L → (fromS A k s).Pairwise (fun x y => ordL x y < 0)
  | 0, _, _ => by simp [fromS]
  | k + 1, s, hs => by
    show List.Pairwise _ ((List.range (A.len s)).flatMap fun i => (fromS A k (A.mv s i).to.toNat).map ((A.mv s i).r :: ·))
    rw [List.pairwise_flatMap]
    refine ⟨fun i hi => ?_, ?_⟩
    · have hi' : i < A.len s := List.mem_range.1 hi
      rw [List.pairwise_map]
      refine (words_asc h k _ (by have := mv_to h hs hi'; omega)).imp fun {x y} hxy => ?_
      simp only [ordL]; rw [if_pos (rcmp_self _)]; exact hxy
    · refine List.Pairwise.imp_of_mem ?_ List.pairwise_lt_range
      intro i j hi hj hij x hx y hy
      obtain ⟨x', _, rfl⟩ := List.mem_map.1 hx
      obtain ⟨y', _, rfl⟩ := List.mem_map.1 hy
      have := asc_of h hs j (List.mem_range.1 hj) i hij
      simp only [ordL]; rw [if_neg (by omega)]; exact this
theorem words_next {A : Adv} (h : achk A = 0) {k s : Nat} (hs : s < A.L) {i : Nat} (hi : i + 1 < (fromS A k s).length) : ordL ((fromS A k s).getD i []) ((fromS A k s).getD (i + 1) []) < 0 := by
  rw [getElem_getD' (by omega), getElem_getD' hi]
  exact List.pairwise_iff_getElem.1 (words_asc h k s hs) i (i + 1) (by omega) hi (by omega)

/-- The beginnings, gathered. -/
def begStep (acc : List (List Rd)) (x : List Rd) : List (List Rd) := if acc.getLast? = some x.dropLast then acc else acc ++ [x.dropLast]
def begs (l : List (List Rd)) : List (List Rd) := l.foldl begStep []
theorem begs_succ {l : List (List Rd)} {i : Nat} (hi : i < l.length) : begs (l.take (i + 1)) = begStep (begs (l.take i)) (l.getD i []) := by
  unfold begs
  rw [List.take_succ_eq_append_getElem hi, List.foldl_append, getElem_getD' hi]
  rfl
theorem foldl_stay {acc : List (List Rd)} {w : List Rd} (ha : acc.getLast? = some w) : ∀ {l : List (List Rd)}, (∀ x ∈ l, x.dropLast = w) → l.foldl begStep acc = acc
  | [], _ => rfl
  | x :: l, h => by
    rw [List.foldl_cons]
    have : begStep acc x = acc := by unfold begStep; rw [h x (by simp), if_pos ha]
    rw [this]
    exact foldl_stay ha fun y hy => h y (by simp [hy])
theorem foldl_block {acc : List (List Rd)} {w : List Rd} (ha : acc.getLast? ≠ some w) {l : List (List Rd)} (hl : 1 ≤ l.length) (h : ∀ x ∈ l, x.dropLast = w) : l.foldl begStep acc = acc ++ [w] := by
  cases l with
  | nil => simp at hl
  | cons x l =>
    rw [List.foldl_cons]
    have : begStep acc x = acc ++ [w] := by unfold begStep; rw [h x (by simp), if_neg ha]
    rw [this]
    exact foldl_stay (by simp) fun y hy => h y (by simp [hy])
theorem foldl_begs {f : List Rd → List (List Rd)} : ∀ {ws acc : List (List Rd)}, (∀ w ∈ ws, 1 ≤ (f w).length ∧ ∀ x ∈ f w, x.dropLast = w) → ws.Pairwise (· ≠ ·) → (∀ w, ws.head? = some w → acc.getLast? ≠ some w) → (ws.flatMap f).foldl begStep acc = acc ++ ws
  | [], acc, _, _, _ => by simp
  | w :: ws, acc, h, hp, hh => by
    rw [List.flatMap_cons, List.foldl_append, foldl_block (hh w rfl) (h w (by simp)).1 (h w (by simp)).2]
    rw [foldl_begs (fun v hv => h v (by simp [hv])) (List.pairwise_cons.1 hp).2 ?_]
    · simp
    · intro v hv
      rw [List.getLast?_append]
      simp only [List.getLast?_singleton, Option.some_or, ne_eq, Option.some.injEq]
      exact (List.pairwise_cons.1 hp).1 v (List.mem_of_head? hv)
theorem begs_words {A : Adv} (h : achk A = 0) (k : Nat) {s : Nat} (hs : s < A.L) : begs (fromS A (k + 1) s) = fromS A k s := by
  unfold begs
  rw [fromS_snoc h k s hs, foldl_begs (fun w hw => ⟨more_len h hs hw, fun x hx => ?_⟩) ((words_asc h k s hs).imp fun {x y} hxy e => ?_) (fun w _ => by simp)]
  · rfl
  · unfold more at hx
    obtain ⟨i, _, rfl⟩ := List.mem_map.1 hx
    exact List.dropLast_concat
  · subst e; rw [ordL_self] at hxy; exact absurd hxy (by decide)
/-- A word's last step. -/
theorem word_last {A : Adv} (h : achk A = 0) {k : Nat} {x : List Rd} (hx : x ∈ fromS A (k + 1) 0) :
    x.length = k + 1 ∧ 0 ≤ after A 0 x ∧ 0 ≤ after A 0 (x.take k) ∧ (after A 0 (x.take k)) < A.L ∧ toL (A.st.getD (after A 0 (x.take k)).toNat []) (x.getD k default) = after A 0 x ∧ x.take k = x.dropLast := by
  have hl := fromS_words A (k + 1) 0 x hx
  have hL := (achk_zero h).2.2.1
  have h0 : 0 ≤ after A 0 x := words_after h (k + 1) 0 (by omega) x hx
  have e : x = x.take k ++ [x.getD k default] := by
    rw [getElem_getD' (by omega), List.take_append_getElem (by omega), List.take_of_length_le (by omega)]
  have h1 : after A 0 x = after A (after A 0 (x.take k)) [x.getD k default] := by
    rw [← after_append, ← e]
  have h2 : 0 ≤ after A 0 (x.take k) := by
    rcases Int.lt_or_le (after A 0 (x.take k)) 0 with h2 | h2
    · rw [after_neg h2] at h1; rw [h1] at h0; exact absurd h0 (by omega)
    · exact h2
  have h3 := after_lt h (s := 0) (by omega) (x := x.take k) h2
  refine ⟨hl, h0, h2, by have : ((0 : Nat) : Int) = 0 := rfl; rw [this] at h3; omega, ?_, ?_⟩
  · rw [h1]; simp only [after]; rw [if_neg (by omega)]
  · rw [List.dropLast_eq_take, hl, Nat.add_sub_cancel]
end Go.Proofs.Ytjgkgcjmcpgiaaa

namespace Go.Proofs.Ytjgkgcjmcpgiaaa

theorem reachP_num (A : Adv) (n : Nat) : (reachP A n).length = numR A n := by simp [reachP, numR]
theorem trim_L (A : Adv) : (trimA A).L = numR A A.L := by
  show (trimSt A A.L).length = _
  unfold trimSt numR; rw [List.length_map]
theorem trimSt_eq (A : Adv) (n : Nat) : trimSt A n = (reachP A n).map fun x => (A.st.getD x.toNat []).map (trimMv A) := by
  unfold trimSt reachP; rw [List.map_map]; rfl
theorem trim_state {A : Adv} {k : Nat} (hk : k < (trimA A).L) : ∃ s, s < A.L ∧ reachB A s = true ∧ numR A s = k ∧ (trimA A).st.getD k [] = (A.st.getD s []).map (trimMv A) := by
  rw [trim_L, ← reachP_num] at hk
  obtain ⟨s, h1, h2, h3, h4⟩ := reachP_at hk
  refine ⟨s, h1, h2, h4, ?_⟩
  show (trimSt A A.L).getD k [] = _
  rw [trimSt_eq, getD_map _ _ _ 0 [] hk, h3, Int.toNat_natCast]
theorem numR_mono (A : Adv) {s t : Nat} (h : s ≤ t) : numR A s ≤ numR A t := by
  induction h with
  | refl => exact Nat.le_refl _
  | @step m _ ih =>
    cases hr : reachB A m with
    | true => rw [numR_yes hr]; omega
    | false => rw [numR_no hr]; exact ih
theorem numR_lt {A : Adv} {s t : Nat} (hr : reachB A s = true) (h : s < t) : numR A s < numR A t := by
  have h1 := numR_yes hr
  have h2 := numR_mono A (s := s + 1) (t := t) h
  omega
theorem numR_inj {A : Adv} {s t : Nat} (hs : reachB A s = true) (ht : reachB A t = true) (h : numR A s = numR A t) : s = t := by
  rcases Nat.lt_trichotomy s t with h1 | h1 | h1
  · have := numR_lt hs h1; omega
  · exact h1
  · have := numR_lt ht h1; omega
theorem trim_of {A : Adv} {s : Nat} (hs : s < A.L) (hr : reachB A s = true) : numR A s < (trimA A).L ∧ (trimA A).st.getD (numR A s) [] = (A.st.getD s []).map (trimMv A) := by
  have h1 : numR A s < (trimA A).L := by rw [trim_L]; exact numR_lt hr hs
  refine ⟨h1, ?_⟩
  obtain ⟨t, ht, hrt, hn, he⟩ := trim_state h1
  rw [he, numR_inj hrt hr hn]
theorem trim_len {A : Adv} {s : Nat} (hs : s < A.L) (hr : reachB A s = true) : (trimA A).len (numR A s) = A.len s := by
  show ((trimA A).st.getD (numR A s) []).length = _
  rw [(trim_of hs hr).2, List.length_map]; rfl
theorem trim_mv {A : Adv} {s i : Nat} (hs : s < A.L) (hr : reachB A s = true) (hi : i < A.len s) : (trimA A).mv (numR A s) i = trimMv A (A.mv s i) := by
  show ((trimA A).st.getD (numR A s) []).getD i default = _
  rw [(trim_of hs hr).2, getD_map _ _ _ default default hi]; rfl
theorem reach_to {A : Adv} {s i : Nat} (hs : s < A.L) (hr : reachB A s = true) (hi : i < A.len s) : reachB A (A.mv s i).to.toNat = true := reachB_iff.2 ((reachB_iff.1 hr).step hs hi)
theorem numR_zero (A : Adv) : numR A 0 = 0 := by simp [numR]

theorem mvErrAt_ok {n : Int} {L : Nat} {ms : List Mv} {i : Nat} (h1 : rchk (ms.getD i default).r = 0) (h2 : (ms.getD i default).r.g.n = n) (h3 : 0 < i → rcmp (ms.getD (i - 1) default).r (ms.getD i default).r < 0) (h4 : 0 ≤ (ms.getD i default).to) (h5 : (ms.getD i default).to < L) : mvErrAt n L ms i = 0 := by
  unfold mvErrAt
  rw [if_pos h1, if_pos h2, if_neg (fun h => by have := h3 h.1; omega), if_neg (by omega)]
theorem trim_moves (A : Adv) : ∀ n, n ≤ A.L → ((trimSt A n).map List.length).sum ≤ ((A.st.take n).map List.length).sum
  | 0, _ => by simp [trimSt]
  | n + 1, h => by
    have ih := trim_moves A n (by omega)
    rw [take_sum_succ (show n < A.st.length from h)]
    cases hr : reachB A n with
    | false => rw [trimSt_no hr]; omega
    | true =>
      have e : ([(A.st.getD n []).map (trimMv A)].map List.length).sum = (A.st.getD n []).length := by
        rw [List.map_singleton, List.sum_singleton, List.length_map]
      rw [trimSt_yes hr, List.map_append, List.sum_append, e]; omega
theorem trim_ok {A : Adv} (h : achk A = 0) : achk (trimA A) = 0 := by
  obtain ⟨hn1, hn2, hL1, hL2, hM, hst, hg⟩ := achk_zero h
  have hT1 := (trim_of (A := A) (s := 0) (by omega) (reach_zero A)).1
  have hT2 : (trimA A).L ≤ A.L := by rw [trim_L]; exact numR_le A A.L
  have hTM : movesN (trimA A) ≤ movesN A := by
    have := trim_moves A A.L (Nat.le_refl _)
    rw [List.take_of_length_le (show A.st.length ≤ A.L from Nat.le_refl _)] at this
    exact this
  have key : firstErr (stErr (trimA A)) (trimA A).L = 0 := by
    refine firstErr_end fun k hk => ?_
    obtain ⟨s, hs, hr, hk', he⟩ := trim_state hk
    subst hk'
    obtain ⟨hl, hz⟩ := stErr_zero (hst s hs)
    unfold stErr
    rw [trim_len hs hr, if_neg hl]
    refine firstErr_end fun i hi => ?_
    obtain ⟨z1, z2, z3, z4, z5⟩ := mvErrAt_zero (hz i hi)
    have e : ∀ j, j < A.len s → ((trimA A).st.getD (numR A s) []).getD j default = trimMv A ((A.st.getD s []).getD j default) := fun j hj => by rw [he, getD_map _ _ _ default default hj]
    have hto := trim_of (A := A) (s := (A.mv s i).to.toNat) (by have := mv_to h hs hi; omega) (reach_to hs hr hi)
    refine mvErrAt_ok ?_ ?_ ?_ ?_ ?_
    · rw [e i hi]; exact z1
    · rw [e i hi]; exact z2
    · intro h0; rw [e i hi, e (i - 1) (by omega)]; exact z3 h0
    · rw [e i hi]; exact Int.natCast_nonneg _
    · rw [e i hi]; exact Int.ofNat_lt.2 hto.1
  have hgr : growsB (trimA A) = true := by
    unfold growsB
    refine all3_true fun k hk i hi j hj => ?_
    obtain ⟨s, hs, hr, rfl, -⟩ := trim_state hk
    rw [trim_len hs hr] at hi
    have ht := mv_to h hs hi
    have hts : (A.mv s i).to.toNat < A.L := by omega
    have hrt := reach_to hs hr hi
    have e1 : ((trimA A).mv (numR A s) i).to.toNat = numR A (A.mv s i).to.toNat := by rw [trim_mv hs hr hi]; rfl
    rw [e1, trim_len hts hrt] at hj
    rw [e1, trim_mv hts hrt hj, trim_mv hs hr hi]
    unfold growsB all3 at hg
    simp only [List.all_eq_true, List.mem_range] at hg
    exact hg s hs i hi j hj
  unfold achk
  rw [if_neg (by show ¬ (A.n < 1 ∨ 5 < A.n); omega), if_neg (by omega), if_pos key, if_pos hgr]
theorem trim_words {A : Adv} (h : achk A = 0) : ∀ (k s : Nat), s < A.L → reachB A s = true → fromS (trimA A) k (numR A s) = fromS A k s
  | 0, _, _, _ => rfl
  | k + 1, s, hs, hr => by
    show (List.range ((trimA A).len (numR A s))).flatMap (fun i => (fromS (trimA A) k ((trimA A).mv (numR A s) i).to.toNat).map (((trimA A).mv (numR A s) i).r :: ·)) = (List.range (A.len s)).flatMap fun i => (fromS A k (A.mv s i).to.toNat).map ((A.mv s i).r :: ·)
    rw [trim_len hs hr]
    refine flatMap_ext fun i hi => ?_
    have hi' : i < A.len s := List.mem_range.1 hi
    have ht := mv_to h hs hi'
    rw [trim_mv hs hr hi']
    show (fromS (trimA A) k (numR A (A.mv s i).to.toNat)).map ((A.mv s i).r :: ·) = _
    rw [trim_words h k _ (by omega) (reach_to hs hr hi')]
theorem trim_words0 {A : Adv} (h : achk A = 0) (k : Nat) : fromS (trimA A) k 0 = fromS A k 0 := by
  have := trim_words h k 0 (by have := (achk_zero h).2.2.1; omega) (reach_zero A)
  rwa [numR_zero] at this
theorem trim_reach {A : Adv} (h : achk A = 0) {s : Nat} (hr : Reach A s) : Reach (trimA A) (numR A s) := by
  induction hr with
  | zero => rw [numR_zero]; exact .zero
  | @step s i hr hs hi ih =>
    have hrb := reachB_iff.2 hr
    have hst := ih.step (trim_of hs hrb).1 (i := i) (by rw [trim_len hs hrb]; exact hi)
    rw [trim_mv hs hrb hi] at hst
    exact hst
theorem trim_all {A : Adv} (h : achk A = 0) {k : Nat} (hk : k < (trimA A).L) : reachB (trimA A) k = true := by
  obtain ⟨s, hs, hr, rfl, -⟩ := trim_state hk
  exact reachB_iff.2 (trim_reach h (reachB_iff.1 hr))
theorem numR_all {T : Adv} (h : ∀ k, k < T.L → reachB T k = true) : ∀ k, k ≤ T.L → numR T k = k
  | 0, _ => numR_zero T
  | k + 1, hk => by rw [numR_yes (h k (by omega)), numR_all h k (by omega)]
theorem trim_same {T : Adv} (h : achk T = 0) (hr : ∀ k, k < T.L → reachB T k = true) : trimA T = T := by
  have hm : ∀ k, k < T.L → (T.st.getD k []).map (trimMv T) = T.st.getD k [] := fun k hk => by
    refine (List.map_congr_left (g := id) fun m hm => ?_).trans (List.map_id _)
    obtain ⟨i, hi, rfl⟩ := List.getElem_of_mem hm
    have ht := mv_to h hk (i := i) hi
    have e : T.mv k i = (T.st.getD k [])[i] := getElem_getD' hi
    rw [e] at ht
    show (⟨_, _⟩ : Mv) = _
    rw [numR_all hr _ (by omega), Int.toNat_of_nonneg ht.1]
    rfl
  have key : ∀ n, n ≤ T.L → trimSt T n = T.st.take n := fun n => by
    induction n with
    | zero => intro _; simp [trimSt]
    | succ n ih =>
      intro hn
      rw [trimSt_yes (hr n hn), ih (by omega), hm n hn, List.take_succ_eq_append_getElem (show n < T.st.length from hn), getElem_getD' (show n < T.st.length from hn)]
  have e : trimSt T T.L = T.st := by rw [key T.L (Nat.le_refl _)]; exact List.take_of_length_le (Nat.le_refl _)
  show (⟨T.n, trimSt T T.L⟩ : Adv) = T
  rw [e]
theorem trim_trim {A : Adv} (h : achk A = 0) : trimA (trimA A) = trimA A := trim_same (trim_ok h) fun _ hk => trim_all h hk
theorem trim_obl {A : Adv} (h : achk A = 0) : oblB (trimA A) = oblB A := by
  have h1 := oblT_eq (A := trimA A) (achk_zero (trim_ok h)).2.2.1
  rw [trim_trim h, oblT_eq (achk_zero h).2.2.1] at h1
  exact h1.symm

/-- An oblivious adversary's states. -/
theorem obl_state {A : Adv} (ho : oblB A = true) {s : Nat} (hs : s < A.L) (hr : reachB A s = true) : A.len s = A.len 0 ∧ ∀ i, i < A.len 0 → (A.mv s i).r = (A.mv 0 i).r := by
  unfold oblB at ho
  rw [List.all_eq_true] at ho
  have h1 := ho s (List.mem_range.2 hs)
  rw [hr, Bool.not_true, Bool.false_or] at h1
  have h2 : (A.st.getD 0 []).map (·.r) = (A.st.getD s []).map (·.r) := of_decide_eq_true h1
  have hl : A.len s = A.len 0 := by have := congrArg List.length h2; simp only [List.length_map] at this; exact this.symm
  refine ⟨hl, fun i hi => ?_⟩
  have h3 : ((A.st.getD 0 []).map (·.r)).getD i default = ((A.st.getD s []).map (·.r)).getD i default := by rw [h2]
  rw [getD_map _ _ _ default default hi, getD_map _ _ _ default default (show i < (A.st.getD s []).length by have : (A.st.getD s []).length = A.len s := rfl; omega)] at h3
  exact h3.symm
theorem obl_pow {A : Adv} (h : achk A = 0) (ho : oblB A = true) : ∀ (k s : Nat), s < A.L → reachB A s = true → (fromS A k s).length = A.len 0 ^ k
  | 0, _, _, _ => rfl
  | k + 1, s, hs, hr => by
    have key : ∀ i, i ≤ A.len s → (fromP A k s i).length = i * A.len 0 ^ k := fun i => by
      induction i with
      | zero => intro _; simp [fromP]
      | succ i ih =>
        intro hi
        have ht := mv_to h hs (show i < A.len s by omega)
        rw [fromP_succ, List.length_append, List.length_map, ih (by omega), obl_pow h ho k _ (by omega) (reach_to hs hr (show i < A.len s by omega)), Nat.succ_mul]
    have := key (A.len s) (Nat.le_refl _)
    rw [(obl_state ho hs hr).1] at this
    show (fromP A k s (A.len s)).length = _
    rw [(obl_state ho hs hr).1, this, Nat.pow_succ, Nat.mul_comm]
theorem obl_allows {A : Adv} (h : achk A = 0) (ho : oblB A = true) : ∀ (l : List Nat) (s : Nat), s < A.L → reachB A s = true → (∀ i ∈ l, i < A.len 0) → 0 ≤ after A s (l.map fun i => (A.mv 0 i).r)
  | [], s, _, _, _ => by simp only [List.map_nil, after]; omega
  | i :: l, s, hs, hr, hl => by
    obtain ⟨h1, h2⟩ := obl_state ho hs hr
    have hi : i < A.len 0 := hl i (by simp)
    have hi' : i < A.len s := by omega
    have ht := mv_to h hs hi'
    rw [List.map_cons, ← h2 i hi, after_mv h hs hi']
    exact obl_allows h ho l _ (by omega) (reach_to hs hr hi') fun j hj => hl j (by simp [hj])
end Go.Proofs.Ytjgkgcjmcpgiaaa

namespace Go.Proofs.Ytjgkgcjmcpgiaaa
open Go.RowKit
attribute [local go_sem] Oper.semAt_some

def goodB (A : Adv) (k : Int) : Bool := fewW A k && (decide (achk A = 0) && (decide (0 ≤ k) && (decide (k ≤ 6) && decide (cnt A 100 k.toNat 0 ≤ 100))))

set_option maxHeartbeats 2000000 in
theorem good_any (A : Adv) (v : Value) (k : Int) (w : World) (hA : AdvRep w v A) :
    Calls Try.prog 31 #[v, .int .i64 k] w fun e w' => e = .returned (.bool (goodB A k)) ∧ Ext w w' := by
  have HF := hide (fun W (hE : Ext w W) => rfewwords_any A v k W (hA.ext hE))
  have HC := hide (fun W (hE : Ext w W) => racheck_any A v W (hA.ext hE))
  have HN := hide (fun W (hE : Ext w W) h0 h1 h2 => rnumber_any A v k 100 W (hA.ext hE) h0 h1 h2 (by decide) (by decide))
  obtain ⟨p, c, rfl, hc, hl, hat⟩ := hA.all_
  clear hA hat
  have hE0 : Ext w (w.alloc (.cells #[.int .i64 A.n, .slice p A.L c] 24)) := (Ext.refl w).alloc _
  have HB := hide (fun w1 => abox2 w A.n (.slice p A.L c) (w1 := w1))
  generalize hres : goodB A k = res
  unfold goodB at hres
  cases hf : fewW A k with
  | false =>
    rw [hf] at HF hres
    rw [Bool.false_and] at hres
    subst hres
    clear hf HC HN
    go_enter Try.func31, Try.ntmps31
    go_wp2_with fail
    refine (HF.out _ hE0).mono ?_
    rintro e w1 ⟨rfl, hE⟩
    go_wp2_with fail
    go_ret
    exact ⟨rfl, hE0.trans hE⟩
  | true =>
    rw [hf] at HF hres
    rw [Bool.true_and] at hres
    clear hf
    by_cases h1 : achk A = 0
    · have hHC := HC.out
      rw [h1] at hHC
      have HC := hide hHC
      clear hHC
      rw [decide_eq_true h1, Bool.true_and] at hres
      by_cases h2 : 0 ≤ k
      · by_cases h3 : k ≤ 6
        · have d2 := decide_eq_true h2
          have d3 := decide_eq_true h3
          rw [d2, d3, Bool.true_and, Bool.true_and] at hres
          have HN := hide (fun W hE => HN.out W hE h1 h2 (by omega))
          clear h1 h2 h3
          have HRES := hide hres
          clear hres
          generalize cnt A 100 k.toNat 0 = x at HN HRES
          by_cases h4 : x ≤ 100
          · have hr := HRES.out
            have d4 : decide (x ≤ (100 : Int)) = true := decide_eq_true h4
            rw [d4] at hr
            subst hr
            clear h4
            go_enter Try.func31, Try.ntmps31
            go_wp2_with fail
            refine (HF.out _ hE0).mono ?_
            rintro e w1 ⟨rfl, hE⟩
            obtain ⟨c0, c1, hz⟩ := HB.out _ hE
            go_wp2_with fail
            refine (HC.out _ (hE0.trans hE)).mono ?_
            rintro e w2 ⟨rfl, hE2⟩
            have hE := hE.trans hE2
            clear c0 c1 hE2
            obtain ⟨c0, c1, hz⟩ := HB.out _ hE
            go_wp2_with fail
            refine (HN.out _ (hE0.trans hE)).mono ?_
            rintro e w3 ⟨rfl, hE2⟩
            have hE := hE.trans hE2
            clear c0 c1 hE2
            go_wp2_with fail
            go_ret
            exact ⟨rfl, hE0.trans hE⟩
          · have hr := HRES.out
            have d4 : decide (x ≤ (100 : Int)) = false := decide_eq_false h4
            rw [d4] at hr
            subst hr
            clear h4
            go_enter Try.func31, Try.ntmps31
            go_wp2_with fail
            refine (HF.out _ hE0).mono ?_
            rintro e w1 ⟨rfl, hE⟩
            obtain ⟨c0, c1, hz⟩ := HB.out _ hE
            go_wp2_with fail
            refine (HC.out _ (hE0.trans hE)).mono ?_
            rintro e w2 ⟨rfl, hE2⟩
            have hE := hE.trans hE2
            clear c0 c1 hE2
            obtain ⟨c0, c1, hz⟩ := HB.out _ hE
            go_wp2_with fail
            refine (HN.out _ (hE0.trans hE)).mono ?_
            rintro e w3 ⟨rfl, hE2⟩
            have hE := hE.trans hE2
            clear c0 c1 hE2
            go_wp2_with fail
            go_ret
            exact ⟨rfl, hE0.trans hE⟩
        · have d2 := decide_eq_true h2
          have d3 := decide_eq_false h3
          rw [d2, d3, Bool.true_and, Bool.false_and] at hres
          subst hres
          clear h1 h2 h3 HN
          go_enter Try.func31, Try.ntmps31
          go_wp2_with fail
          refine (HF.out _ hE0).mono ?_
          rintro e w1 ⟨rfl, hE⟩
          obtain ⟨c0, c1, hz⟩ := HB.out _ hE
          go_wp2_with fail
          refine (HC.out _ (hE0.trans hE)).mono ?_
          rintro e w2 ⟨rfl, hE2⟩
          have hE := hE.trans hE2
          clear c0 c1 hE2
          go_wp2_with fail
          go_ret
          exact ⟨rfl, hE0.trans hE⟩
      · have d2 := decide_eq_false h2
        rw [d2, Bool.false_and] at hres
        subst hres
        clear h1 h2 HN
        go_enter Try.func31, Try.ntmps31
        go_wp2_with fail
        refine (HF.out _ hE0).mono ?_
        rintro e w1 ⟨rfl, hE⟩
        obtain ⟨c0, c1, hz⟩ := HB.out _ hE
        go_wp2_with fail
        refine (HC.out _ (hE0.trans hE)).mono ?_
        rintro e w2 ⟨rfl, hE2⟩
        have hE := hE.trans hE2
        clear c0 c1 hE2
        go_wp2_with fail
        go_ret
        exact ⟨rfl, hE0.trans hE⟩
    · rw [decide_eq_false h1, Bool.false_and] at hres
      subst hres
      have hb : (achk A == 0) = false := by simp [h1]
      clear h1 HN
      generalize achk A = ck at *
      go_enter Try.func31, Try.ntmps31
      go_wp2_with fail
      refine (HF.out _ hE0).mono ?_
      rintro e w1 ⟨rfl, hE⟩
      obtain ⟨c0, c1, hz⟩ := HB.out _ hE
      go_wp2_with fail
      refine (HC.out _ (hE0.trans hE)).mono ?_
      rintro e w2 ⟨rfl, hE2⟩
      have hE := hE.trans hE2
      clear c0 c1 hE2
      go_wp2_with fail
      go_ret
      exact ⟨rfl, hE0.trans hE⟩

/-- What a good adversary is. -/
theorem good_facts {A : Adv} {k : Int} (h : goodB A k = true) : movesN A ≤ 40 ∧ achk A = 0 ∧ ∃ K : Nat, k = K ∧ K ≤ 6 ∧ (fromS A K 0).length ≤ 100 := by
  unfold goodB at h
  simp only [Bool.and_eq_true, decide_eq_true_eq] at h
  obtain ⟨h1, h2, h3, h4, h5⟩ := h
  refine ⟨fewW_few h1, h2, k.toNat, by omega, by omega, ?_⟩
  have := cnt_len A (lim := 100) (by decide) k.toNat 0
  omega
theorem words_ok {A : Adv} {K : Nat} (h : achk A = 0) (hK : K ≤ 6) (hl : (fromS A K 0).length ≤ 100) : wordsS A K = (fromS A K 0, 0) := by
  have := cnt_len A (lim := 4096) (by decide) K 0
  unfold wordsS rdsErr
  rw [if_pos h, if_neg (by omega : ¬ ((K : Int) < 0 ∨ 6 < (K : Int))), if_pos rfl, Int.toNat_natCast, if_neg (by omega)]
theorem count_ok {A : Adv} {K : Nat} (h : achk A = 0) (hK : K ≤ 6) (hl : (fromS A K 0).length ≤ 1048576) : countS A K 1048576 = (((fromS A K 0).length : Int), 0) := by
  have := cnt_len A (lim := 1048576) (by decide) K 0
  unfold countS rdsErr
  rw [if_pos h, if_neg (by omega : ¬ ((K : Int) < 0 ∨ 6 < (K : Int))), if_pos rfl, Int.toNat_natCast, if_neg (by omega)]
  congr 1
  omega
theorem trim_movesN (A : Adv) : movesN (trimA A) ≤ movesN A := by
  have := trim_moves A A.L (Nat.le_refl _)
  rw [List.take_of_length_le (show A.st.length ≤ A.L from Nat.le_refl _)] at this
  exact this
end Go.Proofs.Ytjgkgcjmcpgiaaa
