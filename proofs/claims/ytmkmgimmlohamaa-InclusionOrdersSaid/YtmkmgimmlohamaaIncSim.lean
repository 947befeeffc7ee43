/-
  Simulation, plain: the least simulation is the list of all pairs that words lead to, in ascending order.
  Conditions: none.
-/
import Derived.Test.YtmkmgimmlohamaaIncU
import Derived.Test.YtmkmgimmlohamaaIncV
import Derived.Test.YtmkmgimmlohamaaSrt
namespace Go.Proofs.Ytmkmgimmlohamaa
open Go.RowKit
attribute [local go_sem] Oper.semAt_some

theorem plt_irrefl (x : Int × Int) : ¬ plt x x := by unfold plt; omega
theorem plt_trans {x y z : Int × Int} (h : plt x y) (k : plt y z) : plt x z := by unfold plt at *; omega
theorem plt_total (x y : Int × Int) : plt x y ∨ x = y ∨ plt y x := by
  obtain ⟨a, b⟩ := x
  obtain ⟨c, d⟩ := y
  unfold plt
  rw [Prod.mk.injEq]
  simp only
  omega
/-- Ascending lists with the same members are one. -/
theorem plt_unique : ∀ {l m : List (Int × Int)}, l.Pairwise plt → m.Pairwise plt → (∀ p, p ∈ l ↔ p ∈ m) → l = m
  | [], [], _, _, _ => rfl
  | [], y :: m, _, _, h => absurd ((h y).2 (List.mem_cons_self ..)) (by simp)
  | x :: l, [], _, _, h => absurd ((h x).1 (List.mem_cons_self ..)) (by simp)
  | x :: l, y :: m, hl, hm, h => by
    obtain ⟨hl1, hl2⟩ := List.pairwise_cons.1 hl
    obtain ⟨hm1, hm2⟩ := List.pairwise_cons.1 hm
    have hxy : x = y := by
      rcases List.mem_cons.1 ((h x).1 (List.mem_cons_self ..)) with e | e
      · exact e
      · rcases List.mem_cons.1 ((h y).2 (List.mem_cons_self ..)) with e' | e'
        · exact e'.symm
        · exact absurd (plt_trans (hm1 x e) (hl1 y e')) (plt_irrefl _)
    subst hxy
    congr 1
    refine plt_unique hl2 hm2 fun p => ?_
    constructor
    · intro hp
      rcases List.mem_cons.1 ((h p).1 (List.mem_cons_of_mem _ hp)) with rfl | e
      · exact absurd (hl1 _ hp) (plt_irrefl _)
      · exact e
    · intro hp
      rcases List.mem_cons.1 ((h p).2 (List.mem_cons_of_mem _ hp)) with rfl | e
      · exact absurd (hm1 _ hp) (plt_irrefl _)
      · exact e
/-- A word leads to the pair. -/
def reachS (A B : Adv) (p : Int × Int) : Prop := ∃ u, 0 ≤ after A 0 u ∧ 0 ≤ after B 0 u ∧ p = (after B 0 u, after A 0 u)
def simL (vs : List Vs) : List (Int × Int) := vs.map fun v => ((v.q : Int), (v.p : Int))
theorem simL_reach {A B : Adv} (hA : achk A = 0) (hB : achk B = 0) {vs : List Vs} {ws : List (List Rd)} (hlen : ws.length = vs.length) (h : Full (act := actP dI A B) (0, 0) (zipv vs ws)) (p : Int × Int) : p ∈ simL vs ↔ reachS A B p := by
  have hz := zipv_fst hlen
  unfold simL reachS
  rw [List.mem_map]
  constructor
  · rintro ⟨v, hv, rfl⟩
    have hm : v.pr ∈ (zipv vs ws).map (·.1) := by rw [hz]; exact List.mem_map.2 ⟨v, hv, rfl⟩
    obtain ⟨e, he, hev⟩ := List.mem_map.1 hm
    have := h.path e he
    obtain ⟨h1, h2, h3⟩ := (pathP0 tells_I hA hB e.2 e.1).1 this
    rw [hev] at h3
    have e1 : v.p = (after A 0 e.2).toNat := congrArg Prod.fst h3
    have e2 : v.q = (after B 0 e.2).toNat := congrArg Prod.snd h3
    exact ⟨e.2, h1, h2, by rw [e1, e2, Int.toNat_of_nonneg h1, Int.toNat_of_nonneg h2]⟩
  · rintro ⟨u, h1, h2, rfl⟩
    obtain ⟨e, he, hev⟩ := h.reach _ u _ rfl ((pathP0 tells_I hA hB u _).2 ⟨h1, h2, rfl⟩)
    have hm : e.1 ∈ vs.map Vs.pr := by rw [← hz]; exact List.mem_map.2 ⟨e, he, rfl⟩
    obtain ⟨v, hv, hve⟩ := List.mem_map.1 hm
    rw [hev] at hve
    have e1 : v.p = (after A 0 u).toNat := congrArg Prod.fst hve
    have e2 : v.q = (after B 0 u).toNat := congrArg Prod.snd hve
    exact ⟨v, hv, by rw [e1, e2, Int.toNat_of_nonneg h1, Int.toNat_of_nonneg h2]⟩
theorem simL_diff {d : St → Bool} {A B : Adv} {vs : List Vs} {ws : List (List Rd)} (hlen : ws.length = vs.length) (h : Full (act := actP d A B) (0, 0) (zipv vs ws)) : (simL vs).Pairwise (· ≠ ·) := by
  have hd : (vs.map Vs.pr).Pairwise (· ≠ ·) := by
    rw [← zipv_fst hlen, List.pairwise_map]
    exact h.diff
  unfold simL
  rw [List.pairwise_map] at hd ⊢
  refine hd.imp fun {v u} hne he => hne ?_
  have e1 : (v.q : Int) = u.q := congrArg Prod.fst he
  have e2 : (v.p : Int) = u.p := congrArg Prod.snd he
  exact Prod.ext (by show v.p = u.p; omega) (by show v.q = u.q; omega)
theorem full_pos {d : St → Bool} {A B : Adv} {vs : List Vs} {ws : List (List Rd)} (hlen : ws.length = vs.length) (h : Full (act := actP d A B) (0, 0) (zipv vs ws)) : 0 < vs.length := by
  have := List.length_pos_of_mem h.head
  rwa [zipv_len hlen] at this
theorem after_bd {A : Adv} (hA : achk A = 0) : ∀ (u : List Rd) (s : Int), s < A.L → after A s u < A.L
  | [], s, hs => by simp only [after]; exact hs
  | r :: u, s, hs => by
    simp only [after]
    by_cases h : s < 0
    · rw [if_pos h]; have := (achk_zero hA).2.2.1; omega
    · rw [if_neg h]
      exact after_bd hA u _ (toL_bd hA (s := s.toNat) (by omega) r).2
theorem full_few {A B : Adv} (hA : achk A = 0) (hB : achk B = 0) {vs : List Vs} {ws : List (List Rd)} (hlen : ws.length = vs.length) (h : Full (act := actP dI A B) (0, 0) (zipv vs ws)) : vs.length ≤ 65536 := by
  have hin : ∀ x ∈ simL vs, 0 ≤ x.1 ∧ x.1 < 256 ∧ 0 ≤ x.2 ∧ x.2 < 256 := fun x hx => by
    obtain ⟨u, h1, h2, rfl⟩ := (simL_reach hA hB hlen h x).1 hx
    have a1 := after_bd hA u 0 (by have := (achk_zero hA).2.2.1; omega)
    have b1 := after_bd hB u 0 (by have := (achk_zero hB).2.2.1; omega)
    have a2 := (achk_zero hA).2.2.2.1
    have b2 := (achk_zero hB).2.2.2.1
    exact ⟨h2, by show after B 0 u < _; omega, h1, by show after A 0 u < _; omega⟩
  have hd := simL_diff hlen h
  have hp : ((simL vs).map fun x => (x.1 * 256 + x.2).toNat).Pairwise (· ≠ ·) := by
    rw [List.pairwise_map]
    refine List.Pairwise.imp_of_mem (fun {x y} hx hy hne heq => hne ?_) hd
    obtain ⟨x1, x2, x3, x4⟩ := hin x hx
    obtain ⟨y1, y2, y3, y4⟩ := hin y hy
    exact Prod.ext (by omega) (by omega)
  have := few_nats 65536 _ hp fun n hn => by
    obtain ⟨x, hx, rfl⟩ := List.mem_map.1 hn
    obtain ⟨x1, x2, x3, x4⟩ := hin x hx
    omega
  simpa [simL] using this
open Go.Sort in
/-- What a sort leaves of different pairs. -/
theorem sorted_pw {l : List (Int × Int)} {d' : Array (Int × Int)} (hn : l.Pairwise (· ≠ ·)) (hp : PermIn 0 l.length l.toArray d') (hs : SortedIn (Go.Proofs.ltOf pcmp) 0 l.length d') : d'.size = l.length ∧ d'.toList.Pairwise plt ∧ ∀ p, p ∈ d'.toList ↔ p ∈ l := by
  obtain ⟨h1, -, h3⟩ := hp
  have hsz : d'.size = l.length := by simpa using h1
  have e1 : (d'.extract 0 l.length).toList = d'.toList := by rw [← hsz]; simp
  have e2 : (l.toArray.extract 0 l.length).toList = l := by simp
  rw [e1, e2] at h3
  have hnd : d'.toList.Pairwise (· ≠ ·) := (h3.pairwise_iff (fun {_ _} h => Ne.symm h)).2 hn
  refine ⟨hsz, List.pairwise_iff_getElem.2 fun i j hi hj hij => ?_, fun p => h3.mem_iff⟩
  have hne := List.pairwise_iff_getElem.1 hnd i j hi hj hij
  have hi' : i < d'.size := by simpa using hi
  have hj' : j < d'.size := by simpa using hj
  have := (pcmp_nlt _ _).1 (hs i j (Nat.zero_le _) hij (by omega))
  rw [getElem!_pos d' i hi', getElem!_pos d' j hj'] at this
  rw [Array.getElem_toList, Array.getElem_toList] at hne ⊢
  rcases plt_total d'[i] d'[j] with h | h | h
  · exact h
  · exact absurd h hne
  · exact absurd h this
open Go.Sort in
theorem row_of_holds2 {w : World} {b c : Nat} {l : List (Int × Int)} (h : HoldsK pcells 2 w b 0 l.toArray) (hl : l.length ≤ 1000000) (hc : l.length ≤ c) (hc2 : c ≤ 9223372036854775807) (hb : b < w.heap.size) : Row pcells 2 w (.slice (some ⟨b, 0, none⟩) l.length c) l := by
  refine ⟨_, _, rfl, hc, by constructor <;> omega, fun _ => ⟨b, 0, rfl, hb, fun i x hx j u hu => ?_⟩⟩
  have hi : i < l.length := by
    rcases Nat.lt_or_ge i l.length with h | h
    · exact h
    · rw [List.getElem?_eq_none h] at hx; cases hx
  have hj : j < 2 := by
    rcases Nat.lt_or_ge j 2 with h | h
    · exact h
    · rw [List.getElem?_eq_none (by show 2 ≤ j; exact h)] at hu; cases hu
  have h1 := (HoldsK.cell h (i := i) (c := j) (by simpa using hi) hj).1
  have e : l.toArray[i]! = x := by rw [getElem!_pos l.toArray i (by simpa using hi)]; rw [List.getElem_toArray]; exact (List.getElem?_eq_some_iff.1 hx).2
  rw [e] at h1
  rw [h1]
  have hjl : j < (pcells x).length := by show j < 2; exact hj
  rw [List.getElem?_eq_getElem hjl] at hu
  rw [getElem!_pos (pcells x) j hjl]
  exact hu
/-- What Simulation returns. -/
def RetSm (A B : Adv) (w : World) (en : Ending) (w' : World) : Prop :=
  ∃ x b, en = .returned (.tuple #[x, .bool b, .int .i64 (bothI A B)]) ∧ Ext w w' ∧
    ((bothI A B ≠ 0 ∧ x = .slice none 0 0 ∧ b = false) ∨
      (bothI A B = 0 ∧ b = false ∧ x = .slice none 0 0 ∧ ∃ u, lackW A B u) ∨
      (bothI A B = 0 ∧ b = true ∧ (∀ u, ¬ lackW A B u) ∧ ∃ l, Row pcells 2 w' x l ∧ 0 < l.length ∧ l.Pairwise plt ∧ ∀ p, p ∈ l ↔ reachS A B p))
end Go.Proofs.Ytmkmgimmlohamaa
