/-
  Plain: the sorted steps of Partition and Snapshot, by the program and by the reference.
  Conditions: as each theorem states.
-/
import Derived.Test.YtnhgdjiljjpgmaaFailS
import Derived.Test.YtnhgdjiljjpgmaaOrdLaw
namespace Go.Proofs.Ytnhgdjiljjpgmaa

/-! ### Sorting by rounds -/
def Le17 (x y : Stp17) : Prop := rcmp x.1 y.1 ≤ 0
theorem le17_trans {x y z : Stp17} (h : Le17 x y) (k : Le17 y z) : Le17 x z := by
  have := (rcmp_ord x.1 y.1 z.1).t h k
  unfold Le17 at *; omega
theorem insR_perm (e : Stp17) : ∀ l, (insR e l).Perm (e :: l)
  | [] => List.Perm.refl _
  | x :: l => by
    unfold insR
    split
    · exact List.Perm.refl _
    · exact ((insR_perm e l).cons x).trans (List.Perm.swap e x l)
theorem insR_pw (e : Stp17) : ∀ l, l.Pairwise Le17 → (insR e l).Pairwise Le17
  | [], _ => List.pairwise_singleton _ _
  | x :: l, h => by
    have hl := List.pairwise_cons.1 h
    unfold insR
    split
    · next hlt =>
      have hex : Le17 e x := by have := rcmp_anti x.1 e.1; unfold Le17; omega
      refine List.pairwise_cons.2 ⟨fun y hy => ?_, h⟩
      rcases List.mem_cons.1 hy with rfl | hy
      · exact hex
      · exact le17_trans hex (hl.1 y hy)
    · next hnl =>
      refine List.pairwise_cons.2 ⟨fun y hy => ?_, insR_pw e l hl.2⟩
      rcases List.mem_cons.1 ((insR_perm e l).mem_iff.1 hy) with rfl | hy
      · unfold Le17; omega
      · exact hl.1 y hy
theorem foldl_ins : ∀ (l acc : List Stp17), acc.Pairwise Le17 → (l.foldl (fun out e => insR e out) acc).Perm (acc ++ l) ∧ (l.foldl (fun out e => insR e out) acc).Pairwise Le17
  | [], acc, h => by rw [List.append_nil]; exact ⟨List.Perm.refl _, h⟩
  | e :: l, acc, h => by
    obtain ⟨h1, h2⟩ := foldl_ins l (insR e acc) (insR_pw e acc h)
    refine ⟨h1.trans (((insR_perm e acc).append_right l).trans ?_), h2⟩
    show (e :: (acc ++ l)).Perm (acc ++ e :: l)
    exact List.perm_middle.symm
theorem sortR_perm (l : List Stp17) : (sortR l).Perm l := (foldl_ins l [] List.Pairwise.nil).1
theorem sortR_pw (l : List Stp17) : (sortR l).Pairwise Le17 := (foldl_ins l [] List.Pairwise.nil).2
/-- Sorted lists of the same elements are the same, where rounds tell elements apart. -/
theorem perm_sorted : ∀ {l m : List Stp17}, l.Perm m → l.Pairwise Le17 → m.Pairwise Le17 → (∀ x ∈ l, ∀ y ∈ l, x.1 = y.1 → x = y) → l = m
  | [], m, h, _, _, _ => (List.nil_perm.1 h).symm ▸ rfl
  | a :: l, [], h, _, _, _ => by have := h.length_eq; simp at this
  | a :: l, b :: m, h, hl, hm, hk => by
    have hl' := List.pairwise_cons.1 hl
    have hm' := List.pairwise_cons.1 hm
    have e : a = b := by
      have ha : a ∈ b :: m := h.mem_iff.1 (by simp)
      have hb : b ∈ a :: l := h.mem_iff.2 (by simp)
      rcases List.mem_cons.1 ha with e | ha'
      · exact e
      · rcases List.mem_cons.1 hb with e | hb'
        · exact e.symm
        · have h1 := hl'.1 b hb'
          have h2 := hm'.1 a ha'
          have h3 := rcmp_anti a.1 b.1
          have h4 : rcmp a.1 b.1 = 0 := by unfold Le17 at h1 h2; omega
          exact hk a (by simp) b hb (rcmp_zero'.1 h4)
    subst e
    rw [perm_sorted (List.Perm.cons_inv h) hl'.2 hm'.2 fun x hx y hy => hk x (by simp [hx]) y (by simp [hy])]
theorem sortR_eq {l m : List Stp17} (h : m.Perm l) (hm : m.Pairwise Le17) (hk : ∀ x ∈ l, ∀ y ∈ l, x.1 = y.1 → x = y) : m = sortR l :=
  perm_sorted (h.trans (sortR_perm l).symm) hm (sortR_pw l) fun x hx y hy => hk x (h.mem_iff.1 hx) y (h.mem_iff.1 hy)
/-! ### Graphs by their codes -/
def codeG (g : Gr) : Nat := ((((g.n.toNat * 32 + g.h0.toNat) * 32 + g.h1.toNat) * 32 + g.h2.toNat) * 32 + g.h3.toNat) * 32 + g.h4.toNat
def decodeG (c : Nat) : Gr := ⟨(c / 33554432 : Nat), (c / 1048576 % 32 : Nat), (c / 32768 % 32 : Nat), (c / 1024 % 32 : Nat), (c / 32 % 32 : Nat), (c % 32 : Nat)⟩
def insN (x : Nat) : List Nat → List Nat
  | [] => [x]
  | y :: l => if Nat.ble x y = true then x :: y :: l else y :: insN x l
def sortN (l : List Nat) : List Nat := l.foldr insN []
theorem insN_perm (x : Nat) : ∀ l, (insN x l).Perm (x :: l)
  | [] => List.Perm.refl _
  | y :: l => by
    unfold insN
    split
    · exact List.Perm.refl _
    · exact ((insN_perm x l).cons y).trans (List.Perm.swap x y l)
theorem sortN_perm : ∀ l, (sortN l).Perm l
  | [] => List.Perm.refl _
  | x :: l => (insN_perm x (sortN l)).trans ((sortN_perm l).cons x)
def codedB (A : List Gr) : Bool := A.all fun g => decide (decodeG (codeG g) = g)
theorem decode_all {A : List Gr} (h : codedB A = true) : (A.map codeG).map decodeG = A := by
  rw [List.map_map]
  conv => rhs; rw [← List.map_id A]
  refine List.map_congr_left fun g hg => ?_
  unfold codedB at h
  rw [List.all_eq_true] at h
  exact of_decide_eq_true (h g hg)
theorem perm_codes {A B : List Gr} (hA : codedB A = true) (hB : codedB B = true) (h : sortN (A.map codeG) = sortN (B.map codeG)) : A.Perm B := by
  have h1 : (A.map codeG).Perm (B.map codeG) := (sortN_perm _).symm.trans (h ▸ sortN_perm _)
  have h2 := h1.map decodeG
  rwa [decode_all hA, decode_all hB] at h2
def samesB (A B : List Gr) : Bool := codedB A && (codedB B && decide (sortN (A.map codeG) = sortN (B.map codeG)))
theorem perm_sames {A B : List Gr} (h : samesB A B = true) : A.Perm B := by
  unfold samesB at h
  simp only [Bool.and_eq_true, decide_eq_true_eq] at h
  exact perm_codes h.1 h.2.1 h.2.2
theorem part_table : ((List.range 5).all fun n => samesB (groupsL (n + 1)) ((everyB (n + 1) 5).filter (dividedB (n + 1))) && (groupsL (n + 1)).all fun g => decide (g = wholeG (n + 1)) == (g.h 0 == (fullN (n + 1) : Nat))) = true := by decide +kernel
def ascG : List Gr → Bool
  | a :: b :: l => decide (gcmp a b = -1) && ascG (b :: l)
  | _ => true
theorem snap_table : ((List.range 5).all fun n => samesB (snapL (n + 1)) ((everyB (n + 1) 6).filter (snapB (n + 1))) && ascG ((everyB (n + 1) 6).filter (snapB (n + 1)))) = true := by decide +kernel
theorem ascG_pw : ∀ {l : List Gr}, ascG l = true → l.Pairwise fun a b => gcmp a b = -1
  | [], _ => List.Pairwise.nil
  | [a], _ => List.pairwise_singleton _ _
  | a :: b :: l, h => by
    simp only [ascG, Bool.and_eq_true, decide_eq_true_eq] at h
    have hb := ascG_pw (l := b :: l) h.2
    refine List.pairwise_cons.2 ⟨fun x hx => ?_, hb⟩
    rcases List.mem_cons.1 hx with rfl | hx
    · exact h.1
    · have h1 := (List.pairwise_cons.1 hb).1 x hx
      have := (gcmp_ord a b x).t (by omega) (by omega)
      have h2 := h.1
      omega
theorem part_eq {n k key : Nat} (h1 : 1 ≤ n) (h5 : n ≤ 5) (hk : key ≤ k) : sortR (partE n k key) = edgesB ⟨5, n, k⟩ key := by
  have h := part_table
  obtain ⟨j, rfl⟩ : ∃ j, n = j + 1 := ⟨n - 1, by omega⟩
  rw [List.all_eq_true] at h
  have h := h j (List.mem_range.2 (by omega))
  rw [Bool.and_eq_true, List.all_eq_true] at h
  obtain ⟨hp, hw⟩ := h
  have hp := perm_sames hp
  have e1 : divsB ⟨5, j + 1, k⟩ key = ((everyB (j + 1) 5).filter (dividedB (j + 1))).flatMap fun g => if !(g.h 0 == ((fullN (j + 1) : Nat) : Int)) && key == k then [] else [((⟨g, 0⟩ : Rd), if g.h 0 == ((fullN (j + 1) : Nat) : Int) then key else key + 1)] := by
    rw [flat_filter]
    unfold divsB
    refine flat_congr fun g _ => ?_
    by_cases hd : dividedB (j + 1) g = true
    · simp [hd]
    · simp [hd]
  have e2 : partE (j + 1) k key = (groupsL (j + 1)).flatMap fun g => if !(g.h 0 == ((fullN (j + 1) : Nat) : Int)) && key == k then [] else [((⟨g, 0⟩ : Rd), if g.h 0 == ((fullN (j + 1) : Nat) : Int) then key else key + 1)] := by
    unfold partE
    refine flat_congr fun g hg => ?_
    have := hw g hg
    rw [beq_iff_eq] at this
    by_cases hg0 : g = wholeG (j + 1)
    · rw [decide_eq_true hg0] at this
      rw [if_pos hg0, ← this]
      simp [hk]
    · rw [decide_eq_false hg0] at this
      rw [if_neg hg0, ← this]
      by_cases hkk : key = k
      · subst hkk; simp
      · have : key + 1 ≤ k := by omega
        simp [this, hkk]
  unfold edgesB
  rw [if_pos rfl]
  refine sortR_eq ?_ (sortR_pw _) ?_
  · rw [e1, e2]
    exact (sortR_perm _).trans (hp.flatMap_right _)
  · rw [e1]
    intro x hx y hy hxy
    obtain ⟨g, _, hx⟩ := List.mem_flatMap.1 hx
    obtain ⟨g', _, hy⟩ := List.mem_flatMap.1 hy
    split at hx
    · cases hx
    · split at hy
      · cases hy
      · simp only [List.mem_singleton] at hx hy
        subst hx hy
        injection hxy with hxy
        subst hxy
        rfl
theorem snap_eq {n : Nat} (h1 : 1 ≤ n) (h5 : n ≤ 5) : sortR (snapE n) = ((everyB n 6).filter (snapB n)).map fun g => ((⟨g, 0⟩ : Rd), 0) := by
  have h := snap_table
  obtain ⟨j, rfl⟩ : ∃ j, n = j + 1 := ⟨n - 1, by omega⟩
  rw [List.all_eq_true] at h
  have h := h j (List.mem_range.2 (by omega))
  rw [Bool.and_eq_true] at h
  obtain ⟨hp, ha⟩ := h
  symm
  refine sortR_eq ?_ ?_ ?_
  · exact ((perm_sames hp).symm).map _
  · rw [List.pairwise_map]
    refine (ascG_pw ha).imp fun {a b} h => ?_
    unfold Le17
    rw [show rcmp (⟨a, 0⟩ : Rd) ⟨b, 0⟩ = gcmp a b by unfold rcmp; simp only [firstNZ]; rw [if_neg (show gcmp a b ≠ 0 by omega)]]; omega
  · intro x hx y hy hxy
    obtain ⟨g, _, rfl⟩ := List.mem_map.1 hx
    obtain ⟨g', _, rfl⟩ := List.mem_map.1 hy
    injection hxy with hxy
    subst hxy
    rfl
/-! ### What the reference returns -/
theorem sortR_mem {l : List Stp17} {s : Stp17} : s ∈ sortR l ↔ s ∈ l := (sortR_perm l).mem_iff
theorem edges_mem {op n num key : Nat} {s : Stp17} (hop : 1 ≤ op ∧ op ≤ 4) (h : s ∈ edgesB ⟨op, n, num⟩ key) : s.2 < 2 ^ n ∧ sizeN s.2 ≤ num := by
  unfold edgesB at h
  rw [if_neg (show ¬ op = 5 by omega), sortR_mem] at h
  obtain ⟨o, ho, hs⟩ := List.mem_flatMap.1 h
  by_cases hc : (key &&& o == key && decide (sizeN o ≤ num)) = true
  · rw [if_pos hc] at hs
    obtain ⟨g, -, rfl⟩ := List.mem_map.1 hs
    rw [Bool.and_eq_true, decide_eq_true_eq] at hc
    exact ⟨List.mem_range.1 ho, hc.2⟩
  · rw [if_neg hc] at hs
    cases hs
/-- What the reference returns for a model of faulty processes. -/
def refA (op : Nat) (n f : Int) : Adv × Int := if n < 1 ∨ 5 < n ∨ f < 0 ∨ n < f then (⟨0, []⟩, 2) else buildA (edgesB ⟨op, n.toNat, f.toNat⟩) n.toNat
/-- What the reference returns for a partition. -/
def refPA (n k : Int) : Adv × Int := if n < 1 ∨ 5 < n ∨ k < 0 ∨ 6 < k then (⟨0, []⟩, 2) else buildA (edgesB ⟨5, n.toNat, k.toNat⟩) n.toNat
end Go.Proofs.Ytnhgdjiljjpgmaa
