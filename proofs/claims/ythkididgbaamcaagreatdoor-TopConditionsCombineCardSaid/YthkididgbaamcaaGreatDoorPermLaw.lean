/-
  Plain laws of a task that is made of a declaration: it is well-formed, finds its inputs, permits and allows what the conditions say.
  Conditions: as each theorem states.
-/
import Derived.Test.YthkididgbaamcaaGreatDoorTaskB
import Derived.Test.YthkididgbaamcaaGreatDoorTaskP
namespace Go.Proofs.YthkididgbaamcaaGreatDoor
open Go.RowKit

theorem mem_filt {α : Type} {p : α → Bool} {l : List α} {a : α} (h : a ∈ l.filter p) : a ∈ l := (List.mem_filter.1 h).1
theorem ordL_app : ∀ (x a b : List Int), ordL (x ++ a) (x ++ b) = ordL a b
  | [], _, _ => rfl
  | z :: x, a, b => by
    show (if z < z then -1 else if z < z then 1 else ordL (x ++ a) (x ++ b)) = _
    rw [if_neg (by omega), if_neg (by omega)]
    exact ordL_app x a b
theorem ordL_app_lt : ∀ {x y : List Int} (a b : List Int), x.length = y.length → ordL x y = -1 → ordL (x ++ a) (y ++ b) = -1
  | [], [], _, _, _, h => by simp [ordL] at h
  | [], _ :: _, _, _, hl, _ => by simp at hl
  | _ :: _, [], _, _, hl, _ => by simp at hl
  | u :: x, v :: y, a, b, hl, h => by
    show ordL (u :: (x ++ a)) (v :: (y ++ b)) = _
    unfold ordL at h ⊢
    by_cases h1 : u < v
    · rw [if_pos h1]
    · rw [if_neg h1] at h ⊢
      by_cases h2 : v < u
      · rw [if_pos h2] at h; exact absurd h (by decide)
      · rw [if_neg h2] at h ⊢
        exact ordL_app_lt a b (by simpa using hl) h
theorem vecs_all_len {m n : Nat} {x : List Int} (h : x ∈ vecs m n) : x.length = n := by
  rw [vecs_map] at h
  obtain ⟨i, _, rfl⟩ := List.mem_map.1 h
  exact dig_len _ _ _
theorem vecs_bd {m n : Nat} (hm : 0 < m) {x : List Int} (h : x ∈ vecs m n) : ∀ v ∈ x, 0 ≤ v ∧ v < m := by
  rw [vecs_map] at h
  obtain ⟨i, _, rfl⟩ := List.mem_map.1 h
  exact dig_bd m hm n i
theorem vecs_asc (m : Nat) : ∀ n, (vecs m n).Pairwise fun a b => ordL a b = -1
  | 0 => List.pairwise_singleton _ _
  | n + 1 => by
    simp only [vecs]
    rw [List.pairwise_flatMap]
    refine ⟨fun x _ => ?_, (vecs_asc m n).imp_of_mem fun {a b} ha hb hab => ?_⟩
    · rw [List.pairwise_map]
      exact List.pairwise_lt_range.imp fun {i j} hij => by
        rw [ordL_app]
        unfold ordL
        rw [if_pos (by omega)]
    · intro x hx y hy
      obtain ⟨i, _, rfl⟩ := List.mem_map.1 hx
      obtain ⟨j, _, rfl⟩ := List.mem_map.1 hy
      exact ordL_app_lt _ _ ((vecs_all_len ha).trans (vecs_all_len hb).symm) hab
theorem pw_at {L : List (List Int)} (h : L.Pairwise fun a b => ordL a b = -1) {i : Nat} (hi : i + 1 < L.length) : ordL (L.getD i []) (L.getD (i + 1) []) = -1 := by
  rw [List.getD_eq_getElem?_getD, List.getD_eq_getElem?_getD, List.getElem?_eq_getElem hi, List.getElem?_eq_getElem (show i < L.length by omega)]
  exact List.pairwise_iff_getElem.1 h i (i + 1) (by omega) hi (by omega)
theorem pw_unord {L : List (List Int)} (h : L.Pairwise fun a b => ordL a b = -1) {i : Nat} (hi : i < L.length) : unord L i = false := by
  unfold unord
  by_cases h0 : i = 0
  · subst h0; rfl
  · obtain ⟨k, rfl⟩ : ∃ k, i = k + 1 := ⟨i - 1, by omega⟩
    rw [show k + 1 - 1 = k by omega, pw_at h hi, show decide ((0 : Int) ≤ -1) = false by decide, Bool.and_false]
theorem vecE_ok {N M : Nat} (hM : 0 < M) {x : List Int} (h : x ∈ vecs M N) : vecE x N M = 0 := by
  unfold vecE
  rw [if_neg (by rw [vecs_all_len h]; simp), if_neg]
  rw [List.any_eq_true]
  rintro ⟨v, hv, hb⟩
  have := vecs_bd hM h v hv
  unfold vecBad at hb
  simp only [Bool.or_eq_true, decide_eq_true_eq] at hb
  omega
theorem getD_mem_l {L : List (List Int)} {i : Nat} (h : i < L.length) : L.getD i [] ∈ L := by
  rw [List.getD_eq_getElem?_getD, List.getElem?_eq_getElem h]; exact List.getElem_mem h
/-- What is known of a declaration whose task is made. -/
structure Made1 (N Mi Mo : Nat) (d : Dc) (T : Tk) : Prop where
  n1 : 1 ≤ N
  n5 : N ≤ 5
  i1 : 1 ≤ Mi
  i8 : Mi ≤ 8
  o1 : 1 ≤ Mo
  o8 : Mo ≤ 8
  fi : Mi ^ N ≤ 1024
  fo : Mo ^ N ≤ 1024
  e : T = ⟨N, Mi, Mo, (inL N Mi d.wh).map (caseS N Mo d)⟩
  ne : inL N Mi d.wh ≠ []
  good : ∀ x ∈ inL N Mi d.wh, caseBad d (caseS N Mo d x) = false
  c1 : givenS d.wh 1 = 0
  c2 : condS d.al 3 = 0
  c3 : givenS d.ca 3 = 0
theorem made_of {n : Int} {d : Dc} (h : (taskS n d).2 = 0) (hf1 : fewV n d.ins) (hf2 : fewV n d.outs) : ∃ N Mi Mo : Nat, n = N ∧ d.ins = Mi ∧ d.outs = Mo ∧ Made1 N Mi Mo d (taskS n d).1 := by
  by_cases h1 : sizesS n [d.ins, d.outs] ≠ 0
  · unfold taskS at h; rw [if_pos h1] at h; exact absurd h (by decide)
  obtain ⟨a1, a2, a3, a4, a5, a6⟩ := sizes_two (by simpa using h1)
  obtain ⟨N, rfl⟩ := Int.eq_ofNat_of_zero_le (show 0 ≤ n by omega)
  obtain ⟨Mi, hMi⟩ := Int.eq_ofNat_of_zero_le (show 0 ≤ d.ins by omega)
  obtain ⟨Mo, hMo⟩ := Int.eq_ofNat_of_zero_le (show 0 ≤ d.outs by omega)
  have g1 := hf1 a1 a2 a3 a4
  have g2 := hf2 a1 a2 a5 a6
  rw [hMi, Int.toNat_natCast, Int.toNat_natCast] at g1
  rw [hMo, Int.toNat_natCast, Int.toNat_natCast] at g2
  refine ⟨N, Mi, Mo, rfl, hMi, hMo, ?_⟩
  unfold taskS at h ⊢
  rw [if_neg h1] at h ⊢
  by_cases h2 : givenS d.wh 1 ≠ 0
  · rw [if_pos h2] at h; exact absurd h h2
  rw [if_neg h2] at h ⊢
  by_cases h3 : condS d.al 3 ≠ 0
  · rw [if_pos h3] at h; exact absurd h h3
  rw [if_neg h3] at h ⊢
  by_cases h4 : givenS d.ca 3 ≠ 0
  · rw [if_pos h4] at h; exact absurd h h4
  rw [if_neg h4] at h ⊢
  have e : inpS (N : Int) d.ins d.wh = (inL N Mi d.wh, 0) := by
    unfold inpS
    rw [if_neg (by rw [sizes_ok (by omega) (by omega) (by omega) (by omega)]; decide), if_neg h2, hMi, Int.toNat_natCast, Int.toNat_natCast]; rfl
  rw [e] at h ⊢
  rw [hMo, hMi, Int.toNat_natCast, Int.toNat_natCast] at h ⊢
  by_cases h5 : inL N Mi d.wh = []
  · rw [if_pos h5] at h; exact absurd h (by decide)
  rw [if_neg h5] at h ⊢
  by_cases h6 : ((inL N Mi d.wh).any fun x => caseBad d (caseS N Mo d x)) = true
  · rw [if_pos h6] at h; exact absurd h (by decide)
  rw [if_neg h6] at h ⊢
  exact ⟨by omega, by omega, by omega, by omega, by omega, by omega, g1, g2, rfl, h5, fun x hx => by
    have := List.any_eq_false.1 (Bool.eq_false_iff.2 h6) x hx
    simpa using this, Classical.not_not.1 h2, Classical.not_not.1 h3, Classical.not_not.1 h4⟩
section
variable {N Mi Mo : Nat} {d : Dc} {T : Tk} (h : Made1 N Mi Mo d T)
include h
theorem Made1.len : T.cs.length = (inL N Mi d.wh).length := by rw [h.e]; simp
theorem Made1.at_ {i : Nat} (hi : i < (inL N Mi d.wh).length) : T.cs.getD i default = caseS N Mo d ((inL N Mi d.wh).getD i []) := by
  rw [h.e]
  show ((inL N Mi d.wh).map (caseS N Mo d)).getD i default = _
  rw [List.getD_eq_getElem?_getD, List.getD_eq_getElem?_getD, List.getElem?_map, List.getElem?_eq_getElem hi]; rfl
omit h in
theorem Made1.inl {N Mi : Nat} {d : Dc} {i : Nat} (hi : i < (inL N Mi d.wh).length) : (inL N Mi d.wh).getD i [] ∈ vecs Mi N := mem_filt (getD_mem_l hi)
theorem Made1.inl_len : 1 ≤ (inL N Mi d.wh).length ∧ (inL N Mi d.wh).length ≤ 1024 :=
  ⟨List.length_pos_iff.2 h.ne, Nat.le_trans (List.length_filter_le _ _) (by rw [vecs_len]; exact h.fi)⟩
theorem Made1.cs_zero {x : List Int} (hx : x ∈ inL N Mi d.wh) : csE N Mo (caseS N Mo d x) = 0 := by
  have hg := h.good x hx
  unfold caseBad at hg
  simp only [Bool.or_eq_false_iff, List.isEmpty_eq_false_iff] at hg
  have hout : (caseS N Mo d x).out = (vecs Mo N).filter (holdOut N x d.al) := rfl
  have hpw : (caseS N Mo d x).out.Pairwise fun a b => ordL a b = -1 := by rw [hout]; exact (vecs_asc Mo N).filter _
  have hl : (caseS N Mo d x).out.length ≤ 1024 := by rw [hout]; exact Nat.le_trans (List.length_filter_le _ _) (by rw [vecs_len]; exact h.fo)
  have hcp : (caseS N Mo d x).calm.Pairwise fun a b => ordL a b = -1 := by
    unfold caseS
    dsimp only
    split
    · exact List.Pairwise.nil
    · exact ((vecs_asc Mo N).filter _).filter _
  have hcm : ∀ y ∈ (caseS N Mo d x).calm, y ∈ (caseS N Mo d x).out := by
    unfold caseS
    dsimp only
    split
    · intro y hy; simp at hy
    · exact fun y hy => mem_filt hy
  unfold csE
  rw [if_neg (by have := List.length_pos_iff.2 hg.1; omega), firstErr_end, if_neg (fun k => k rfl), firstErr_end]
  · intro i hi
    unfold calmE
    rw [if_neg (by rw [decide_eq_true (hcm _ (getD_mem_l hi))]; decide), pw_unord hcp hi, if_neg (by decide)]
  · intro i hi
    have hv : vecE ((caseS N Mo d x).out.getD i []) N Mo = 0 := vecE_ok h.o1 (mem_filt (show (caseS N Mo d x).out.getD i [] ∈ (vecs Mo N).filter (holdOut N x d.al) from hout ▸ getD_mem_l hi))
    unfold outE
    rw [hv, if_neg (fun k => k rfl), pw_unord hpw hi, if_neg (by decide)]
theorem Made1.ok : tkE T = 0 := by
  obtain ⟨l1, l2⟩ := h.inl_len
  have hn : T.n = N := by rw [h.e]
  have hi : T.ins = Mi := by rw [h.e]
  have ho : T.outs = Mo := by rw [h.e]
  have a1 := h.n1
  have a2 := h.n5
  have a3 := h.i1
  have a4 := h.i8
  have a5 := h.o1
  have a6 := h.o8
  unfold tkE
  rw [if_neg (by omega), if_neg (by rw [h.len]; omega), firstErr_end]
  intro i hlt
  rw [h.len] at hlt
  unfold inE
  rw [h.at_ hlt, hn, hi, ho]
  have hv : vecE (caseS N Mo d ((inL N Mi d.wh).getD i [])).inp N Mi = 0 := vecE_ok h.i1 (Made1.inl hlt)
  rw [hv, if_neg (fun k => k rfl), h.cs_zero (getD_mem_l hlt)]
  have hu : (decide (0 < i) && decide (0 ≤ ordL (T.cs.getD (i - 1) default).inp (caseS N Mo d ((inL N Mi d.wh).getD i [])).inp)) = false := by
    by_cases h0 : i = 0
    · subst h0; rfl
    · rw [h.at_ (show i - 1 < (inL N Mi d.wh).length by omega)]
      exact pw_unord ((vecs_asc Mi N).filter _) hlt
  rw [hu, if_neg (by decide)]
theorem Made1.calm_len : ∀ k, k < T.cs.length → (T.cs.getD k default).calm.length ≤ 100000 := by
  intro k hk
  rw [h.len] at hk
  rw [h.at_ hk]
  have hl : ((vecs Mo N).filter (holdOut N ((inL N Mi d.wh).getD k []) d.al)).length ≤ 1024 := Nat.le_trans (List.length_filter_le _ _) (by rw [vecs_len]; exact h.fo)
  unfold caseS
  dsimp only
  split
  · simp
  · exact Nat.le_trans (List.length_filter_le _ _) (by omega)
theorem Made1.out_len : ∀ c ∈ T.cs, c.out.length ≤ 17592186044416 ∧ c.calm.length ≤ 17592186044416 := by
  intro c hc
  rw [h.e] at hc
  obtain ⟨x, _, rfl⟩ := List.mem_map.1 hc
  have hl : ((vecs Mo N).filter (holdOut N x d.al)).length ≤ 1024 := Nat.le_trans (List.length_filter_le _ _) (by rw [vecs_len]; exact h.fo)
  unfold caseS
  dsimp only
  refine ⟨by omega, ?_⟩
  split
  · simp
  · exact Nat.le_trans (List.length_filter_le _ _) (by omega)
/-- Find: the index of an input, or none. -/
theorem Made1.find {x : List Int} (hx : x ∈ vecs Mi N) :
    (holdIn N d.wh x = true → ∃ k, k < (inL N Mi d.wh).length ∧ (inL N Mi d.wh).getD k [] = x ∧ findS T x = ((k : Int), 0)) ∧ (holdIn N d.wh x = false → findS T x = (0, 6)) := by
  have hT := tk_ok h.ok
  constructor
  · intro hh
    obtain ⟨k, hk, he⟩ := List.getElem_of_mem (show x ∈ inL N Mi d.wh from List.mem_filter.2 ⟨hx, hh⟩)
    have hg : (inL N Mi d.wh).getD k [] = x := by rw [List.getD_eq_getElem?_getD, List.getElem?_eq_getElem hk]; exact he
    have hf : fnd T x = k := fnd_at hT (by rw [h.len]; exact hk) (by rw [h.at_ hk, hg]; rfl)
    refine ⟨k, hk, hg, ?_⟩
    unfold findS
    rw [if_neg (fun j => j h.ok), hf, if_pos (by omega)]
  · intro hh
    have hf : fnd T x = -1 := fnd_none fun i hi he => by
      rw [h.len] at hi
      rw [h.at_ hi] at he
      have he' : (inL N Mi d.wh).getD i [] = x := he
      have := (List.mem_filter.1 (show (inL N Mi d.wh).getD i [] ∈ (vecs Mi N).filter (holdIn N d.wh) from getD_mem_l hi)).2
      rw [he', hh] at this
      exact absurd this (by decide)
    unfold findS
    rw [if_neg (fun j => j h.ok), hf, if_neg (by decide)]
/-- What is permitted without faults. -/
def quietB (N : Nat) (d : Dc) (x y : List Int) : Bool := holdOut N x d.al y && (absentE d.ca || holdOut N x d.ca y)
theorem Made1.calm0 {x : List Int} (hx : x ∈ inL N Mi d.wh) : allowedL (caseS N Mo d x) 0 = (vecs Mo N).filter (quietB N d x) := by
  have hg := h.good x hx
  unfold caseBad at hg
  simp only [Bool.or_eq_false_iff, Bool.and_eq_false_iff, Bool.not_eq_false', List.isEmpty_eq_false_iff] at hg
  unfold allowedL
  cases hab : absentE d.ca
  · have hc : (caseS N Mo d x).calm = ((vecs Mo N).filter (holdOut N x d.al)).filter (holdOut N x d.ca) := by
      unfold caseS; dsimp only; rw [if_neg (by rw [hab]; decide)]
    have hne : (caseS N Mo d x).calm ≠ [] := by
      rcases hg.2 with h1 | h1
      · rw [hab] at h1; exact absurd h1 (by decide)
      · exact h1
    rw [if_pos ⟨rfl, List.length_pos_iff.2 hne⟩, hc, List.filter_filter]
    apply List.filter_congr
    intro y _
    unfold quietB
    rw [hab, Bool.false_or, Bool.and_comm]
  · have hc : (caseS N Mo d x).calm = [] := by unfold caseS; dsimp only; rw [if_pos hab]
    rw [if_neg (by rw [hc]; simp)]
    show (vecs Mo N).filter (holdOut N x d.al) = _
    apply List.filter_congr
    intro y _
    unfold quietB
    rw [hab, Bool.true_or, Bool.and_true]
theorem Made1.place0 {k : Nat} (hk : k < (inL N Mi d.wh).length) {f : Int} (hf : 0 ≤ f) (hf1 : f ≤ 1) : placeE T k f = 0 := by
  have hn : T.n = N := by rw [h.e]
  unfold placeE
  rw [if_neg (fun j => j h.ok), if_neg (by rw [h.len]; omega), if_neg]
  rw [hn, Int.toNat_natCast]
  have h2 : (2 : Int) ^ 1 ≤ 2 ^ N := pow_mono h.n1
  have h3 : (2 : Int) ^ 1 = 2 := rfl
  omega
omit h in
theorem agrees_self {v y : List Int} (hl : v.length = y.length) : agreesB v y 0 = decide (v = y) := by
  rw [Bool.eq_iff_iff, decide_eq_true_iff]
  unfold agreesB
  rw [List.all_eq_true]
  have h0 : ∀ p, has ((0 : Nat) : Int) p = false := fun p => by unfold has; simp
  constructor
  · intro h
    refine List.ext_getElem hl fun j h1 h2 => ?_
    have := h j (List.mem_range.2 h1)
    rw [h0, Bool.false_or, beq_iff_eq, List.getD_eq_getElem?_getD, List.getD_eq_getElem?_getD, List.getElem?_eq_getElem h1, List.getElem?_eq_getElem h2] at this
    exact this.symm
  · rintro rfl p _
    simp
theorem Made1.perm {k : Nat} (hk : k < (inL N Mi d.wh).length) {y : List Int} (hy : y ∈ vecs Mo N) : permS T k 0 y = (quietB N d ((inL N Mi d.wh).getD k []) y, 0) := by
  have hn : T.n = N := by rw [h.e]
  have ho : T.outs = Mo := by rw [h.e]
  unfold permS
  rw [if_neg (fun j => j (h.place0 hk (by decide) (by decide))), if_neg (by rw [hn, vecs_all_len hy]; simp), if_neg, Int.toNat_natCast, h.at_ hk]
  · congr 1
    rw [h.calm0 (getD_mem_l hk)]
    have key : ((vecs Mo N).filter (quietB N d ((inL N Mi d.wh).getD k []))).any (fun v => agreesB v y 0) = decide (y ∈ (vecs Mo N).filter (quietB N d ((inL N Mi d.wh).getD k []))) := by
      rw [← any_eq_mem, Bool.eq_iff_iff, List.any_eq_true, List.any_eq_true]
      constructor
      · rintro ⟨v, hv, hb⟩
        rw [agrees_self ((vecs_all_len (mem_filt hv)).trans (vecs_all_len hy).symm)] at hb
        exact ⟨v, hv, hb⟩
      · rintro ⟨v, hv, hb⟩
        exact ⟨v, hv, by rw [agrees_self ((vecs_all_len (mem_filt hv)).trans (vecs_all_len hy).symm)]; exact hb⟩
    show (((vecs Mo N).filter (quietB N d ((inL N Mi d.wh).getD k []))).any fun v => agreesB v y (0 : Int).toNat) = _
    rw [show (0 : Int).toNat = 0 from rfl, key, Bool.eq_iff_iff, decide_eq_true_iff, List.mem_filter]
    exact ⟨fun j => j.2, fun j => ⟨hy, j⟩⟩
  · rw [ho, List.any_eq_true]
    rintro ⟨v, hv, hb⟩
    have := vecs_bd h.o1 hy v hv
    unfold decBad at hb
    simp only [Bool.or_eq_true, decide_eq_true_eq] at hb
    omega
theorem Made1.allow1 {k : Nat} (hk : k < (inL N Mi d.wh).length) : allowS T k 1 = ((vecs Mo N).filter (holdOut N ((inL N Mi d.wh).getD k []) d.al), 0) := by
  unfold allowS
  rw [if_neg (fun j => j (h.place0 hk (by decide) (by decide))), Int.toNat_natCast, h.at_ hk]
  rfl
theorem Made1.allow0 {k : Nat} (hk : k < (inL N Mi d.wh).length) : allowS T k 0 = ((vecs Mo N).filter (quietB N d ((inL N Mi d.wh).getD k [])), 0) := by
  unfold allowS
  rw [if_neg (fun j => j (h.place0 hk (by decide) (by decide))), Int.toNat_natCast, h.at_ hk, h.calm0 (getD_mem_l hk)]
end
end Go.Proofs.YthkididgbaamcaaGreatDoor
