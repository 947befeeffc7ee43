/-
  The search of both adversaries, plain: visits, words, what is left of a pair's rounds.
  Conditions: none.
-/
import Derived.Test.YtmkmgimmlohamaaIncF
import Derived.Test.YtmkmgimmlohamaaKMaps
namespace Go.Proofs.Ytmkmgimmlohamaa
open Go.RowKit

abbrev Vs.pr (v : Vs) : Nat × Nat := (v.p, v.q)
def zipv (vs : List Vs) (ws : List (List Rd)) : List ((Nat × Nat) × List Rd) := (vs.map Vs.pr).zip ws
theorem zipv_len {vs : List Vs} {ws : List (List Rd)} (h : ws.length = vs.length) : (zipv vs ws).length = vs.length := by unfold zipv; simp [h]
theorem zipv_at {vs : List Vs} {ws : List (List Rd)} (h : ws.length = vs.length) {i : Nat} (hi : i < vs.length) : (zipv vs ws)[i]? = some ((vs.getD i default).pr, ws.getD i []) := by
  unfold zipv
  rw [List.getElem?_zip_eq_some]
  constructor
  · rw [List.getElem?_map, List.getElem?_eq_getElem hi]; simp [List.getD_eq_getElem?_getD, List.getElem?_eq_getElem hi]
  · rw [List.getElem?_eq_getElem (by omega)]; simp [List.getD_eq_getElem?_getD, List.getElem?_eq_getElem (show i < ws.length by omega)]
theorem zipv_app {vs : List Vs} {ws : List (List Rd)} (h : ws.length = vs.length) (v : Vs) (x : List Rd) : zipv (vs ++ [v]) (ws ++ [x]) = zipv vs ws ++ [(v.pr, x)] := by
  unfold zipv
  rw [List.map_append, List.zip_append (by simp [h])]
  rfl
theorem zipv_fst {vs : List Vs} {ws : List (List Rd)} (h : ws.length = vs.length) : (zipv vs ws).map (·.1) = vs.map Vs.pr := by
  unfold zipv
  exact List.map_fst_zip (by simp [h])
/-- Where the search stands: visits, their words, the visit whose rounds are read, and the rounds that are left. -/
structure Srch (d : St → Bool) (A B : Adv) (vs : List Vs) (ws : List (List Rd)) (i : Nat) (rest : List St) : Prop where
  wok : WOk vs ws
  inb : ∀ v ∈ vs, v.p < A.L ∧ v.q < B.L
  bfs : ∃ done, Bfs (act := actP d A B) (0, 0) (zipv vs ws) i done (actOf d rest)
theorem Srch.here {d : St → Bool} {A B : Adv} {vs : List Vs} {ws : List (List Rd)} {i : Nat} {rest : List St} (h : Srch d A B vs ws i rest) : i < vs.length := by
  obtain ⟨_, hb⟩ := h.bfs
  have := hb.here
  rwa [zipv_len h.wok.len] at this
theorem Srch.start (d : St → Bool) {A B : Adv} (hA : achk A = 0) (hB : achk B = 0) : Srch d A B [⟨0, 0, 0, default⟩] [[]] 0 (mergeS (A.st.getD 0 []) (B.st.getD 0 [])) where
  wok := ⟨rfl, rfl, fun i h1 h2 => by simp at h2; omega⟩
  inb := fun v hv => by
    simp only [List.mem_singleton] at hv
    subst hv
    exact ⟨(achk_zero hA).2.2.1, (achk_zero hB).2.2.1⟩
  bfs := ⟨[], Bfs.start _⟩
theorem Srch.known {d : St → Bool} {A B : Adv} {vs : List Vs} {ws : List (List Rd)} {i : Nat} {rest : List St} (h : Srch d A B vs ws i rest) (t : Nat × Nat) : (∃ q ∈ zipv vs ws, q.1 = t) ↔ ∃ v ∈ vs, v.pr = t := by
  have := zipv_fst h.wok.len
  constructor
  · rintro ⟨q, hq, rfl⟩
    have : q.1 ∈ (zipv vs ws).map (·.1) := List.mem_map.2 ⟨q, hq, rfl⟩
    rw [zipv_fst h.wok.len] at this
    obtain ⟨v, hv, hvp⟩ := List.mem_map.1 this
    exact ⟨v, hv, hvp⟩
  · rintro ⟨v, hv, rfl⟩
    have : v.pr ∈ vs.map Vs.pr := List.mem_map.2 ⟨v, hv, rfl⟩
    rw [← zipv_fst h.wok.len] at this
    obtain ⟨q, hq, hqp⟩ := List.mem_map.1 this
    exact ⟨q, hq, hqp⟩
/-- A round that is called different: the least word that ends in such a one. -/
theorem Srch.found {d : St → Bool} {A B : Adv} (hA : achk A = 0) (hB : achk B = 0) {vs : List Vs} {ws : List (List Rd)} {i : Nat} {e : St} {rest : List St} (h : Srch d A B vs ws i (e :: rest)) (he : d e = true) :
    markA (actP d A B) (0, 0) (ws.getD i [] ++ [e.r]) ∧ ∀ u, markA (actP d A B) (0, 0) u → Wle (ws.getD i [] ++ [e.r]) u := by
  obtain ⟨done, hb⟩ := h.bfs
  rw [actOf_cons, if_pos he] at hb
  exact hb.found (fun s => actP_asc d hA hB s) (zipv_at h.wok.len h.here)
/-- A round that leads nowhere in one of them. -/
theorem Srch.pass {d : St → Bool} {A B : Adv} {vs : List Vs} {ws : List (List Rd)} {i : Nat} {e : St} {rest : List St} (h : Srch d A B vs ws i (e :: rest)) (he : d e = false) (hxy : ¬ (0 ≤ e.x ∧ 0 ≤ e.y)) : Srch d A B vs ws i rest := by
  obtain ⟨done, hb⟩ := h.bfs
  rw [actOf_cons, if_neg (by rw [he]; decide), if_neg hxy] at hb
  exact ⟨h.wok, h.inb, done, hb⟩
/-- A round that leads to a pair that is known. -/
theorem Srch.skip {d : St → Bool} {A B : Adv} {vs : List Vs} {ws : List (List Rd)} {i : Nat} {e : St} {rest : List St} (h : Srch d A B vs ws i (e :: rest)) (he : d e = false) (hxy : 0 ≤ e.x ∧ 0 ≤ e.y) (hk : ∃ v ∈ vs, v.pr = (e.x.toNat, e.y.toNat)) : Srch d A B vs ws i rest := by
  obtain ⟨done, hb⟩ := h.bfs
  rw [actOf_cons, if_neg (by rw [he]; decide), if_pos hxy] at hb
  exact ⟨h.wok, h.inb, _, hb.skip ((h.known _).2 hk)⟩
/-- A round that leads to a new pair. -/
theorem Srch.add {d : St → Bool} {A B : Adv} (hA : achk A = 0) (hB : achk B = 0) {vs : List Vs} {ws : List (List Rd)} {i : Nat} {e : St} {rest : List St} (h : Srch d A B vs ws i (e :: rest)) (he : d e = false) (hxy : 0 ≤ e.x ∧ 0 ≤ e.y) (hk : ¬ ∃ v ∈ vs, v.pr = (e.x.toNat, e.y.toNat))
    (hb1 : e.x < A.L) (hb2 : e.y < B.L) : Srch d A B (vs ++ [⟨e.x.toNat, e.y.toNat, i, e.r⟩]) (ws ++ [ws.getD i [] ++ [e.r]]) i rest := by
  obtain ⟨done, hb⟩ := h.bfs
  have hlen := h.wok.len
  have hi := h.here
  rw [actOf_cons, if_neg (by rw [he]; decide), if_pos hxy] at hb
  refine ⟨⟨by simp [hlen], ?_, fun j h1 h2 => ?_⟩, fun v hv => ?_, done ++ [(e.r, some (e.x.toNat, e.y.toNat))], ?_⟩
  · rw [List.getD_eq_getElem?_getD, List.getElem?_append_left (by omega), ← List.getD_eq_getElem?_getD]; exact h.wok.zero
  · by_cases hj : j < vs.length
    · obtain ⟨h3, h4⟩ := h.wok.up j h1 hj
      have e1 : (vs ++ [(⟨e.x.toNat, e.y.toNat, i, e.r⟩ : Vs)]).getD j default = vs.getD j default := by rw [List.getD_eq_getElem?_getD, List.getElem?_append_left hj, ← List.getD_eq_getElem?_getD]
      rw [e1]
      refine ⟨h3, ?_⟩
      rw [List.getD_eq_getElem?_getD, List.getElem?_append_left (by omega), ← List.getD_eq_getElem?_getD, h4, List.getD_eq_getElem?_getD (l := ws ++ _), List.getElem?_append_left (by omega), ← List.getD_eq_getElem?_getD]
    · have hj : j = vs.length := by simp at h2; omega
      subst hj
      have e1 : (vs ++ [(⟨e.x.toNat, e.y.toNat, i, e.r⟩ : Vs)]).getD vs.length default = ⟨e.x.toNat, e.y.toNat, i, e.r⟩ := by simp [List.getD_eq_getElem?_getD]
      rw [e1]
      refine ⟨hi, ?_⟩
      rw [← hlen, List.getD_eq_getElem?_getD, List.getElem?_append_right (Nat.le_refl _), Nat.sub_self, List.getD_eq_getElem?_getD (l := ws ++ _), List.getElem?_append_left (by show i < _; omega), ← List.getD_eq_getElem?_getD]
      rfl
  · rcases List.mem_append.1 hv with hv | hv
    · exact h.inb v hv
    · simp only [List.mem_singleton] at hv
      subst hv
      exact ⟨by show e.x.toNat < _; omega, by show e.y.toNat < _; omega⟩
  · rw [zipv_app hlen]
    exact hb.add (fun s => actP_asc d hA hB s) (zipv_at hlen hi) fun q hq hqe => hk ((h.known _).1 ⟨q, hq, hqe⟩)
theorem Srch.next {d : St → Bool} {A B : Adv} {vs : List Vs} {ws : List (List Rd)} {i : Nat} (h : Srch d A B vs ws i []) (hi : i + 1 < vs.length) :
    Srch d A B vs ws (i + 1) (mergeS (A.st.getD (vs.getD (i + 1) default).p []) (B.st.getD (vs.getD (i + 1) default).q [])) := by
  obtain ⟨done, hb⟩ := h.bfs
  exact ⟨h.wok, h.inb, [], hb.next (zipv_at h.wok.len hi)⟩
theorem Srch.full {d : St → Bool} {A B : Adv} {vs : List Vs} {ws : List (List Rd)} {i : Nat} (h : Srch d A B vs ws i []) (hi : i + 1 = vs.length) : Full (act := actP d A B) (0, 0) (zipv vs ws) := by
  obtain ⟨done, hb⟩ := h.bfs
  exact hb.full (by rw [zipv_len h.wok.len]; exact hi)
/-- Numbers below k that differ are at most k. -/
theorem few_nats : ∀ (k : Nat) (l : List Nat), l.Pairwise (· ≠ ·) → (∀ x ∈ l, x < k) → l.length ≤ k
  | 0, [], _, _ => Nat.le_refl _
  | 0, x :: _, _, h => absurd (h x (List.mem_cons_self ..)) (Nat.not_lt_zero _)
  | k + 1, l, hp, h => by
    by_cases hk : k ∈ l
    · have h1 := few_nats k (l.filter (fun x => x != k)) (hp.filter _) fun x hx => by
        obtain ⟨h2, h3⟩ := List.mem_filter.1 hx
        have := h x h2
        have : x ≠ k := by simpa using h3
        omega
      obtain ⟨a, b, rfl⟩ := List.append_of_mem hk
      rw [List.pairwise_append, List.pairwise_cons] at hp
      obtain ⟨_, ⟨h4, _⟩, h5⟩ := hp
      have ea : a.filter (fun x => x != k) = a := List.filter_eq_self.2 fun x hx => by simpa using h5 x hx k (List.mem_cons_self ..)
      have eb : b.filter (fun x => x != k) = b := List.filter_eq_self.2 fun x hx => by simpa using (h4 x hx).symm
      rw [List.filter_append, List.filter_cons, ea, eb] at h1
      simp at h1 ⊢
      omega
    · have := few_nats k l hp fun x hx => by
        have h1 := h x hx
        have : x ≠ k := fun e => hk (e ▸ hx)
        omega
      omega
theorem Srch.few {d : St → Bool} {A B : Adv} (hA : achk A = 0) (hB : achk B = 0) {vs : List Vs} {ws : List (List Rd)} {i : Nat} {rest : List St} (h : Srch d A B vs ws i rest) : vs.length ≤ 65536 := by
  obtain ⟨_, hb⟩ := h.bfs
  have hlen := h.wok.len
  have hd : (vs.map Vs.pr).Pairwise (· ≠ ·) := by
    rw [← zipv_fst hlen, List.pairwise_map]
    exact hb.diff
  have hp : ((vs.map Vs.pr).map fun p => p.1 * 256 + p.2).Pairwise (· ≠ ·) := by
    rw [List.pairwise_map]
    refine List.Pairwise.imp_of_mem (fun {p q} hp hq hne heq => hne ?_) hd
    obtain ⟨v, hv, rfl⟩ := List.mem_map.1 hp
    obtain ⟨u, hu, rfl⟩ := List.mem_map.1 hq
    have h1 := (h.inb v hv).2
    have h2 := (h.inb u hu).2
    have h3 := (achk_zero hB).2.2.2.1
    simp only at heq
    exact Prod.ext (by show v.p = u.p; omega) (by show v.q = u.q; omega)
  have := few_nats 65536 _ hp fun x hx => by
    obtain ⟨p, hp, rfl⟩ := List.mem_map.1 hx
    obtain ⟨v, hv, rfl⟩ := List.mem_map.1 hp
    have h1 := (h.inb v hv).1
    have h2 := (h.inb v hv).2
    have h3 := (achk_zero hB).2.2.2.1
    have h4 := (achk_zero hA).2.2.2.1
    show v.p * 256 + v.q < _
    omega
  simpa using this
theorem toL_bd {A : Adv} (hA : achk A = 0) {s : Nat} (hs : s < A.L) (r : Rd) : -1 ≤ toL (A.st.getD s []) r ∧ toL (A.st.getD s []) r < A.L := by
  have hL := (achk_zero hA).2.2.1
  by_cases h : 0 ≤ toL (A.st.getD s []) r
  · obtain ⟨m, hm, rfl⟩ := (toL_ge (okM_of hA s) r).1 h
    rw [toL_in (okM_of hA s) hm]
    obtain ⟨i, hi, rfl⟩ := List.getElem_of_mem hm
    have := sound_of (achk_zero hA).2.2.2.2.2.1 s hs i hi
    have e : A.mv s i = (A.st.getD s [])[i] := by
      show (A.st.getD s []).getD i default = _
      rw [List.getD_eq_getElem?_getD, List.getElem?_eq_getElem hi]; rfl
    rw [e] at this
    have h1 := this.1
    have h2 := this.2.1
    omega
  · rw [(toL_lt (okM_of hA s) r).1 (by omega)]
    omega
/-- The bounds of a step. -/
theorem step_bd {A B : Adv} (hA : achk A = 0) (hB : achk B = 0) {s t : Nat} (hs : s < A.L) (ht : t < B.L) {e : St} (he : e ∈ mergeS (A.st.getD s []) (B.st.getD t [])) : -1 ≤ e.x ∧ e.x < A.L ∧ -1 ≤ e.y ∧ e.y < B.L := by
  obtain ⟨_, h2, h3⟩ := (merge_mem _ _ (okM_of hA s) (okM_of hB t) e).1 he
  rw [h2, h3]
  exact ⟨(toL_bd hA hs e.r).1, (toL_bd hA hs e.r).2, (toL_bd hB ht e.r).1, (toL_bd hB ht e.r).2⟩
/-- What the map of the search holds. -/
def seenL (vs : List Vs) : List ((Int × Int) × Value) := vs.map fun v => (((v.p : Int), (v.q : Int)), .bool true)
theorem seen_look (p q : Nat) : ∀ vs : List Vs, (klook (seenL vs) ((p : Int), (q : Int))).getD (.bool false) = .bool (decide (∃ v ∈ vs, v.pr = (p, q)))
  | [] => rfl
  | v :: vs => by
    have ih := seen_look p q vs
    show (if ((p : Int), (q : Int)) = ((v.p : Int), (v.q : Int)) then some (Value.bool true) else klook (seenL vs) ((p : Int), (q : Int))).getD (.bool false) = _
    by_cases h : v.pr = (p, q)
    · have h1 : v.p = p := congrArg Prod.fst h
      have h2 : v.q = q := congrArg Prod.snd h
      rw [if_pos (by rw [h1, h2])]
      rw [decide_eq_true (⟨v, List.mem_cons_self .., h⟩ : ∃ u ∈ v :: vs, u.pr = (p, q))]
      rfl
    · rw [if_neg (fun k => h (by
        injection k with k1 k2
        exact Prod.ext (by show v.p = p; omega) (by show v.q = q; omega))), ih]
      congr 1
      refine decide_eq_decide.2 ⟨fun ⟨u, hu, hue⟩ => ⟨u, List.mem_cons_of_mem _ hu, hue⟩, fun ⟨u, hu, hue⟩ => ?_⟩
      rcases List.mem_cons.1 hu with rfl | hu
      · exact absurd hue h
      · exact ⟨u, hu, hue⟩
theorem seen_put (vs : List Vs) (v : Vs) (h : ¬ ∃ u ∈ vs, u.pr = v.pr) : kput (seenL vs) ((v.p : Int), (v.q : Int)) (.bool true) = seenL (vs ++ [v]) := by
  rw [kput_new]
  · unfold seenL; rw [List.map_append]; rfl
  · induction vs with
    | nil => rfl
    | cons u vs ih =>
      show (if ((v.p : Int), (v.q : Int)) = ((u.p : Int), (u.q : Int)) then some (Value.bool true) else klook (seenL vs) ((v.p : Int), (v.q : Int))) = none
      rw [if_neg (fun k => h ⟨u, List.mem_cons_self .., by
        injection k with k1 k2
        exact Prod.ext (by show u.p = v.p; omega) (by show u.q = v.q; omega)⟩)]
      exact ih fun ⟨x, hx, hxv⟩ => h ⟨x, List.mem_cons_of_mem _ hx, hxv⟩
end Go.Proofs.Ytmkmgimmlohamaa
