/-
  Texts of words: cut at " / ", and at " !"; a word's text is read as the word.
  Conditions: none.
-/
import Derived.Test.YtfnhjalnbmnlaaaDoorRdA
import Derived.Test.YtfnhjalnbmnlaaaDoorSpl
namespace Go.Proofs.YtfnhjalnbmnlaaaDoor
open Go.RowKit

theorem occ_two {a b : UInt8} {u s : List UInt8} {j : Nat} (h : Lib.occAt s (a :: b :: u) j = true) : s[j + 1]? = some b := by
  unfold Lib.occAt at h
  rw [List.isPrefixOf_iff_prefix] at h
  obtain ⟨r, hr⟩ := h
  have h1 : (s.drop j)[1]? = some b := by rw [← hr]; rfl
  rwa [List.getElem?_drop] at h1
theorem index_two {a b : UInt8} {u x t : List UInt8} (hab : a ≠ b) (hx : b ∉ x) : Lib.index (x ++ ((a :: b :: u) ++ t)) (a :: b :: u) = (x.length : Int) := by
  refine Lib.index_first (by simp) ?_ fun j hj => ?_
  · unfold Lib.occAt
    rw [List.isPrefixOf_iff_prefix, List.drop_left]
    exact ⟨t, rfl⟩
  · cases ho : Lib.occAt (x ++ ((a :: b :: u) ++ t)) (a :: b :: u) j with
    | false => rfl
    | true =>
      exfalso
      have h1 := occ_two ho
      rcases Nat.lt_or_ge (j + 1) x.length with h2 | h2
      · rw [List.getElem?_append_left h2] at h1
        exact hx (List.mem_of_getElem? h1)
      · have : j + 1 = x.length := by omega
        rw [this, List.getElem?_append_right (Nat.le_refl _), Nat.sub_self] at h1
        simp at h1
        exact hab h1
theorem index_two_none {a b : UInt8} {u x : List UInt8} (hx : b ∉ x) : Lib.index x (a :: b :: u) = -1 := by
  refine Lib.index_none fun j _ => ?_
  cases ho : Lib.occAt x (a :: b :: u) j with
  | false => rfl
  | true => exact absurd (List.mem_of_getElem? (occ_two ho)) hx
/-- The text of a round, and of a word. -/
def rtx (r : Rd) : List UInt8 := wrt r.g ++ if r.f = 0 then [] else [32, 33] ++ txt r.f.toNat
def noneT : List UInt8 := [110, 111, 110, 101]
def wtx (l : List Rd) : List UInt8 := if l = [] then noneT else Lib.join (l.map rtx) [32, 47, 32]
def formatS (n : Int) (l : List Rd) : List UInt8 × Int := if wordE n l ≠ 0 then ([], wordE n l) else (wtx l, 0)
abbrev sepW : List UInt8 := [32, 47, 32]
theorem splitW : ∀ (P : List (List UInt8)) (x : List UInt8), 47 ∉ x → (∀ y ∈ P, 47 ∉ y) → Lib.split (x ++ Lib.joinTail sepW P) sepW = x :: P
  | [], x, hx, _ => by
    have hi : Lib.index (x ++ Lib.joinTail sepW []) sepW = -1 := by rw [show Lib.joinTail sepW [] = [] from rfl, List.append_nil]; exact index_two_none hx
    unfold Lib.split
    rw [Lib.count_miss hi, show Lib.joinTail sepW [] = [] from rfl, List.append_nil]; rfl
  | y :: P, x, hx, hP => by
    have e : x ++ Lib.joinTail sepW (y :: P) = x ++ (sepW ++ (y ++ Lib.joinTail sepW P)) := by
      unfold Lib.joinTail; rw [List.map_cons, List.flatten_cons, List.append_assoc]
    have hi : Lib.index (x ++ Lib.joinTail sepW (y :: P)) sepW = (x.length : Int) := by rw [e]; exact index_two (by decide) hx
    have hd : (x ++ Lib.joinTail sepW (y :: P)).drop (x.length + sepW.length) = y ++ Lib.joinTail sepW P := by
      rw [e, ← List.append_assoc]
      exact List.drop_left' (by rw [List.length_append])
    have ih := splitW P y (hP y (by simp)) fun z hz => hP z (by simp [hz])
    unfold Lib.split at ih ⊢
    rw [Lib.count_hit (by decide) hi, hd, Nat.add_comm]
    unfold Lib.splitK
    rw [hi, if_neg (by simp), Int.toNat_natCast, Nat.add_zero, hd, ih]
    congr 1
    rw [List.take_left]
/-- The digits of a set, ascending. -/
def mskS : List UInt8 → Nat → Nat → Option Nat
  | [], out, _ => some out
  | c :: r, out, least => if 48 + least ≤ c.toNat ∧ c.toNat ≤ 57 then mskS r (out ||| 2 ^ (c.toNat - 48)) (c.toNat - 48 + 1) else none
def maskS (l : List UInt8) : Option Nat := if l = [] then none else mskS l 0 0
/-- The round with a text. -/
def letS (x : List UInt8) : Option Rd :=
  if 0 ≤ Lib.index x [32, 33] then
    match maskS (x.drop ((Lib.index x [32, 33]).toNat + 2)) with
    | none => none
    | some m => if (parseS (x.take (Lib.index x [32, 33]).toNat)).2 = 0 then some ⟨(parseS (x.take (Lib.index x [32, 33]).toNat)).1, (m : Nat)⟩ else none
  else if (parseS x).2 = 0 then some ⟨(parseS x).1, 0⟩ else none
/-- The rounds with texts. -/
def letsS : List (List UInt8) → Option (List Rd)
  | [] => some []
  | x :: P => match letS x with
    | none => none
    | some r => match letsS P with
      | none => none
      | some l => some (r :: l)
def parseW (n : Int) (s : List UInt8) : List Rd × Int :=
  if n < 1 ∨ 5 < n then ([], 1) else if 65536 < s.length then ([], 13) else if s = noneT then ([], 0) else
    match letsS (Lib.split s sepW) with
    | none => ([], 4)
    | some l => if wordE n l ≠ 0 then ([], wordE n l) else (l, 0)
theorem mask_txt : ∀ s, s < 32 → s ≠ 0 → maskS (txt s) = some s := by decide +kernel
theorem txt_no : ∀ s, s < 32 → 47 ∉ txt s ∧ 33 ∉ txt s := by decide +kernel
theorem join_mem {sep : List UInt8} {c : UInt8} : ∀ {P : List (List UInt8)}, c ∈ Lib.join P sep → c ∈ sep ∨ ∃ x ∈ P, c ∈ x
  | [], h => by simp [Lib.join_nil] at h
  | x :: P, h => by
    rw [Lib.join_cons, List.mem_append] at h
    rcases h with h | h
    · exact .inr ⟨x, by simp, h⟩
    · unfold Lib.joinTail at h
      obtain ⟨y, hy, hc⟩ := List.mem_flatten.1 h
      obtain ⟨z, hz, rfl⟩ := List.mem_map.1 hy
      rcases List.mem_append.1 hc with h1 | h1
      · exact .inl h1
      · exact .inr ⟨z, by simp [hz], h1⟩
theorem wrt_no {g : Gr} {n : Nat} (hg : Wf g n) : 47 ∉ wrt g ∧ 33 ∉ wrt g := by
  have key : ∀ c : UInt8, c ≠ 32 → (∀ s, s < 32 → c ∉ txt s) → c ∉ wrt g := fun c hc h hm => by
    unfold wrt at hm
    rcases join_mem hm with h1 | ⟨x, hx, h1⟩
    · exact hc (by simpa using h1)
    · unfold partsG at hx
      obtain ⟨i, _, rfl⟩ := List.mem_map.1 hx
      exact h _ (hg.lt32 i) h1
  exact ⟨key 47 (by decide) fun s hs => (txt_no s hs).1, key 33 (by decide) fun s hs => (txt_no s hs).2⟩
theorem rtx_no {r : Rd} {n : Nat} (h : RWf r n) : 47 ∉ rtx r := by
  unfold rtx
  rw [List.mem_append]
  rintro (h1 | h1)
  · exact (wrt_no h.g).1 h1
  · by_cases hf : r.f = 0
    · rw [if_pos hf] at h1; simp at h1
    · rw [if_neg hf, List.mem_append] at h1
      rcases h1 with h1 | h1
      · exact absurd h1 (by decide)
      · exact (txt_no _ (Nat.lt_of_lt_of_le h.f_lt (pow2_32 h.g.n5))).1 h1
/-- The text of a round is read as it. -/
theorem let_rtx {r : Rd} {n : Nat} (h : RWf r n) : letS (rtx r) = some r := by
  have hno := wrt_no h.g
  unfold rtx
  by_cases hf : r.f = 0
  · rw [if_pos hf, List.append_nil]
    unfold letS
    rw [index_two_none hno.2, if_neg (by decide), parse_wrt h.g, if_pos rfl, ← hf]
  · rw [if_neg hf]
    have hi : Lib.index (wrt r.g ++ ([32, 33] ++ txt r.f.toNat)) [32, 33] = ((wrt r.g).length : Int) := index_two (u := []) (by decide) hno.2
    have hd : (wrt r.g ++ ([32, 33] ++ txt r.f.toNat)).drop ((wrt r.g).length + 2) = txt r.f.toNat := by
      rw [← List.append_assoc]
      exact List.drop_left' (by rw [List.length_append]; rfl)
    unfold letS
    rw [hi, if_pos (by omega), Int.toNat_natCast, hd, mask_txt _ (Nat.lt_of_lt_of_le h.f_lt (pow2_32 h.g.n5)) (by have := h.f_eq; omega), List.take_left]
    simp only [parse_wrt h.g, if_true]
    rw [← h.f_eq]
theorem lets_rtx {n : Nat} : ∀ {l : List Rd}, (∀ r ∈ l, RWf r n) → letsS (l.map rtx) = some l
  | [], _ => rfl
  | r :: l, h => by
    rw [List.map_cons, letsS, let_rtx (h r (by simp)), lets_rtx fun x hx => h x (by simp [hx])]
theorem rtx_head {r : Rd} {n : Nat} (h : RWf r n) : ∃ t, rtx r = 48 :: t := by
  obtain ⟨m, rfl⟩ : ∃ m, n = m + 1 := ⟨n - 1, by have := h.g.n1; omega⟩
  have h1 : ∀ s, s < 32 → s.testBit 0 = true → (txt s).head? = some 48 := by decide +kernel
  have h2 := h1 _ (h.g.lt32 0) (h.g.own 0 (by omega))
  obtain ⟨P, hP, -⟩ := partsG_cons r.g m
  unfold rtx wrt
  rw [h.g.toNat, hP, Lib.join_cons]
  cases ht : txt (r.g.r 0) with
  | nil => rw [ht] at h2; cases h2
  | cons c t =>
    rw [ht] at h2
    have hc : c = 48 := by simpa using h2
    subst hc
    exact ⟨_, rfl⟩
/-- The text of a word is read as it. -/
theorem parse_wtx {n : Nat} {l : List Rd} (h : WordOk n l) (hlen : (wtx l).length ≤ 65536) : parseW n (wtx l) = (l, 0) := by
  have h1 := h.n1; have h5 := h.n5
  unfold parseW
  rw [if_neg (by omega), if_neg (by omega)]
  cases l with
  | nil => rw [if_pos (show wtx [] = noneT from rfl)]
  | cons r l =>
    have hm := word_mem h
    have he : wtx (r :: l) = rtx r ++ Lib.joinTail sepW (l.map rtx) := by unfold wtx; rw [if_neg (by simp), List.map_cons, Lib.join_cons]
    have hne : wtx (r :: l) ≠ noneT := by
      obtain ⟨t, ht⟩ := rtx_head (hm r (by simp))
      rw [he, ht]
      intro hc
      injection hc with hc _
      exact absurd hc (by decide)
    rw [if_neg hne, he, splitW _ _ (rtx_no (hm r (by simp))) (fun y hy => by
      obtain ⟨x, hx, rfl⟩ := List.mem_map.1 hy
      exact rtx_no (hm x (by simp [hx]))), ← List.map_cons, lets_rtx hm]
    simp only []
    rw [if_neg (by rw [word_ok h]; simp)]
theorem wtx_inj {n : Nat} {a b : List Rd} (ha : WordOk n a) (hb : WordOk n b) (hla : (wtx a).length ≤ 65536) (h : wtx a = wtx b) : a = b := by
  have h1 := parse_wtx ha hla
  rw [h, parse_wtx hb (by rw [← h]; exact hla)] at h1
  exact (Prod.mk.inj h1).1.symm
theorem rtx_len {r : Rd} {n : Nat} (h : RWf r n) : (rtx r).length ≤ 40 := by
  unfold rtx
  have h1 := wrt_len h.g
  rw [List.length_append]
  have h2 := txt_len r.f.toNat
  split
  · simp; omega
  · simp; omega
end Go.Proofs.YtfnhjalnbmnlaaaDoor
