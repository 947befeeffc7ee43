/-
  The program's Includes and Equivalent, walked.
  Conditions: as each theorem states.
-/
import Derived.Test.YtmkmgimmlohamaaIncW
import Derived.Test.YtmkmgimmlohamaaKMaps
import Derived.Test.YtmkmgimmlohamaaMarks
import Derived.OwnWalk
namespace Go.Proofs.Ytmkmgimmlohamaa
open Go.RowKit

abbrev Vs.pr (v : Vs) : Nat × Nat := (v.p, v.q)
def zipv (vs : List Vs) (ws : List (List Rd)) : List ((Nat × Nat) × List Rd) := (vs.map Vs.pr).zip ws
theorem zipv_len {vs : List Vs} {ws : List (List Rd)} (h : ws.length = vs.length) : (zipv vs ws).length = vs.length := by unfold zipv; simp [h]
theorem zipv_at {vs : List Vs} {ws : List (List Rd)} (h : ws.length = vs.length) {i : Nat} (hi : i < vs.length) : (zipv vs ws)[i]? = some ((vs.getD i default).pr, ws.getD i []) := by
  unfold zipv
  rw [List.getElem?_zip_eq_some]
  constructor
  · rw [List.getElem?_map, List.getElem?_eq_getElem hi]; simp [List.getD_eq_getElem?_getD, List.getElem?_eq_getElem hi]
  · rw [List.getElem?_eq_getElem (by omega)]; simp [List.getD_eq_getElem?_getD, List.getElem?_eq_getElem (show i < ws.length by omega)]
theorem zipv_app {vs : List Vs} {ws : List (List Rd)} (h : ws.length = vs.length) (v : Vs) (x : List Rd) : zipv (vs ++ [v]) (ws ++ [x]) = zipv vs ws ++ [(v.pr, x)] := by
  unfold zipv
  rw [List.map_append, List.zip_append (by simp [h])]
  rfl
theorem zipv_fst {vs : List Vs} {ws : List (List Rd)} (h : ws.length = vs.length) : (zipv vs ws).map (·.1) = vs.map Vs.pr := by
  unfold zipv
  exact List.map_fst_zip (by simp [h])
/-- Where the search stands: visits, their words, the visit whose rounds are read, and the rounds that are left. -/
structure Srch (d : St → Bool) (A B : Adv) (vs : List Vs) (ws : List (List Rd)) (i : Nat) (rest : List St) : Prop where
  wok : WOk vs ws
  inb : ∀ v ∈ vs, v.p < A.L ∧ v.q < B.L
  bfs : ∃ done, Bfs (act := actP d A B) (0, 0) (zipv vs ws) i done (actOf d rest)
theorem Srch.here {d : St → Bool} {A B : Adv} {vs : List Vs} {ws : List (List Rd)} {i : Nat} {rest : List St} (h : Srch d A B vs ws i rest) : i < vs.length := by
  obtain ⟨_, hb⟩ := h.bfs
  have := hb.here
  rwa [zipv_len h.wok.len] at this
theorem Srch.start (d : St → Bool) {A B : Adv} (hA : achk A = 0) (hB : achk B = 0) : Srch d A B [⟨0, 0, 0, default⟩] [[]] 0 (mergeS (A.st.getD 0 []) (B.st.getD 0 [])) where
  wok := ⟨rfl, rfl, fun i h1 h2 => by simp at h2; omega⟩
  inb := fun v hv => by
    simp only [List.mem_singleton] at hv
    subst hv
    exact ⟨(achk_zero hA).2.2.1, (achk_zero hB).2.2.1⟩
  bfs := ⟨[], Bfs.start _⟩
theorem Srch.known {d : St → Bool} {A B : Adv} {vs : List Vs} {ws : List (List Rd)} {i : Nat} {rest : List St} (h : Srch d A B vs ws i rest) (t : Nat × Nat) : (∃ q ∈ zipv vs ws, q.1 = t) ↔ ∃ v ∈ vs, v.pr = t := by
  have := zipv_fst h.wok.len
  constructor
  · rintro ⟨q, hq, rfl⟩
    have : q.1 ∈ (zipv vs ws).map (·.1) := List.mem_map.2 ⟨q, hq, rfl⟩
    rw [zipv_fst h.wok.len] at this
    obtain ⟨v, hv, hvp⟩ := List.mem_map.1 this
    exact ⟨v, hv, hvp⟩
  · rintro ⟨v, hv, rfl⟩
    have : v.pr ∈ vs.map Vs.pr := List.mem_map.2 ⟨v, hv, rfl⟩
    rw [← zipv_fst h.wok.len] at this
    obtain ⟨q, hq, hqp⟩ := List.mem_map.1 this
    exact ⟨q, hq, hqp⟩
/-- A round that is called different: the least word that ends in such a one. -/
theorem Srch.found {d : St → Bool} {A B : Adv} (hA : achk A = 0) (hB : achk B = 0) {vs : List Vs} {ws : List (List Rd)} {i : Nat} {e : St} {rest : List St} (h : Srch d A B vs ws i (e :: rest)) (he : d e = true) :
    markA (actP d A B) (0, 0) (ws.getD i [] ++ [e.r]) ∧ ∀ u, markA (actP d A B) (0, 0) u → Wle (ws.getD i [] ++ [e.r]) u := by
  obtain ⟨done, hb⟩ := h.bfs
  rw [actOf_cons, if_pos he] at hb
  exact hb.found (fun s => actP_asc d hA hB s) (zipv_at h.wok.len h.here)
/-- A round that leads nowhere in one of them. -/
theorem Srch.pass {d : St → Bool} {A B : Adv} {vs : List Vs} {ws : List (List Rd)} {i : Nat} {e : St} {rest : List St} (h : Srch d A B vs ws i (e :: rest)) (he : d e = false) (hxy : ¬ (0 ≤ e.x ∧ 0 ≤ e.y)) : Srch d A B vs ws i rest := by
  obtain ⟨done, hb⟩ := h.bfs
  rw [actOf_cons, if_neg (by rw [he]; decide), if_neg hxy] at hb
  exact ⟨h.wok, h.inb, done, hb⟩
/-- A round that leads to a pair that is known. -/
theorem Srch.skip {d : St → Bool} {A B : Adv} {vs : List Vs} {ws : List (List Rd)} {i : Nat} {e : St} {rest : List St} (h : Srch d A B vs ws i (e :: rest)) (he : d e = false) (hxy : 0 ≤ e.x ∧ 0 ≤ e.y) (hk : ∃ v ∈ vs, v.pr = (e.x.toNat, e.y.toNat)) : Srch d A B vs ws i rest := by
  obtain ⟨done, hb⟩ := h.bfs
  rw [actOf_cons, if_neg (by rw [he]; decide), if_pos hxy] at hb
  exact ⟨h.wok, h.inb, _, hb.skip ((h.known _).2 hk)⟩
/-- A round that leads to a new pair. -/
theorem Srch.add {d : St → Bool} {A B : Adv} (hA : achk A = 0) (hB : achk B = 0) {vs : List Vs} {ws : List (List Rd)} {i : Nat} {e : St} {rest : List St} (h : Srch d A B vs ws i (e :: rest)) (he : d e = false) (hxy : 0 ≤ e.x ∧ 0 ≤ e.y) (hk : ¬ ∃ v ∈ vs, v.pr = (e.x.toNat, e.y.toNat))
    (hb1 : e.x < A.L) (hb2 : e.y < B.L) : Srch d A B (vs ++ [⟨e.x.toNat, e.y.toNat, i, e.r⟩]) (ws ++ [ws.getD i [] ++ [e.r]]) i rest := by
  obtain ⟨done, hb⟩ := h.bfs
  have hlen := h.wok.len
  have hi := h.here
  rw [actOf_cons, if_neg (by rw [he]; decide), if_pos hxy] at hb
  refine ⟨⟨by simp [hlen], ?_, fun j h1 h2 => ?_⟩, fun v hv => ?_, done ++ [(e.r, some (e.x.toNat, e.y.toNat))], ?_⟩
  · rw [List.getD_eq_getElem?_getD, List.getElem?_append_left (by omega), ← List.getD_eq_getElem?_getD]; exact h.wok.zero
  · by_cases hj : j < vs.length
    · obtain ⟨h3, h4⟩ := h.wok.up j h1 hj
      have e1 : (vs ++ [(⟨e.x.toNat, e.y.toNat, i, e.r⟩ : Vs)]).getD j default = vs.getD j default := by rw [List.getD_eq_getElem?_getD, List.getElem?_append_left hj, ← List.getD_eq_getElem?_getD]
      rw [e1]
      refine ⟨h3, ?_⟩
      rw [List.getD_eq_getElem?_getD, List.getElem?_append_left (by omega), ← List.getD_eq_getElem?_getD, h4, List.getD_eq_getElem?_getD (l := ws ++ _), List.getElem?_append_left (by omega), ← List.getD_eq_getElem?_getD]
    · have hj : j = vs.length := by simp at h2; omega
      subst hj
      have e1 : (vs ++ [(⟨e.x.toNat, e.y.toNat, i, e.r⟩ : Vs)]).getD vs.length default = ⟨e.x.toNat, e.y.toNat, i, e.r⟩ := by simp [List.getD_eq_getElem?_getD]
      rw [e1]
      refine ⟨hi, ?_⟩
      rw [← hlen, List.getD_eq_getElem?_getD, List.getElem?_append_right (Nat.le_refl _), Nat.sub_self, List.getD_eq_getElem?_getD (l := ws ++ _), List.getElem?_append_left (by show i < _; omega), ← List.getD_eq_getElem?_getD]
      rfl
  · rcases List.mem_append.1 hv with hv | hv
    · exact h.inb v hv
    · simp only [List.mem_singleton] at hv
      subst hv
      exact ⟨by show e.x.toNat < _; omega, by show e.y.toNat < _; omega⟩
  · rw [zipv_app hlen]
    exact hb.add (fun s => actP_asc d hA hB s) (zipv_at hlen hi) fun q hq hqe => hk ((h.known _).1 ⟨q, hq, hqe⟩)
theorem Srch.next {d : St → Bool} {A B : Adv} {vs : List Vs} {ws : List (List Rd)} {i : Nat} (h : Srch d A B vs ws i []) (hi : i + 1 < vs.length) :
    Srch d A B vs ws (i + 1) (mergeS (A.st.getD (vs.getD (i + 1) default).p []) (B.st.getD (vs.getD (i + 1) default).q [])) := by
  obtain ⟨done, hb⟩ := h.bfs
  exact ⟨h.wok, h.inb, [], hb.next (zipv_at h.wok.len hi)⟩
theorem Srch.full {d : St → Bool} {A B : Adv} {vs : List Vs} {ws : List (List Rd)} {i : Nat} (h : Srch d A B vs ws i []) (hi : i + 1 = vs.length) : Full (act := actP d A B) (0, 0) (zipv vs ws) := by
  obtain ⟨done, hb⟩ := h.bfs
  exact hb.full (by rw [zipv_len h.wok.len]; exact hi)
/-- Numbers below k that differ are at most k. -/
theorem few_nats : ∀ (k : Nat) (l : List Nat), l.Pairwise (· ≠ ·) → (∀ x ∈ l, x < k) → l.length ≤ k
  | 0, [], _, _ => Nat.le_refl _
  | 0, x :: _, _, h => absurd (h x (List.mem_cons_self ..)) (Nat.not_lt_zero _)
  | k + 1, l, hp, h => by
    by_cases hk : k ∈ l
    · have h1 := few_nats k (l.filter (fun x => x != k)) (hp.filter _) fun x hx => by
        obtain ⟨h2, h3⟩ := List.mem_filter.1 hx
        have := h x h2
        have : x ≠ k := by simpa using h3
        omega
      obtain ⟨a, b, rfl⟩ := List.append_of_mem hk
      rw [List.pairwise_append, List.pairwise_cons] at hp
      obtain ⟨_, ⟨h4, _⟩, h5⟩ := hp
      have ea : a.filter (fun x => x != k) = a := List.filter_eq_self.2 fun x hx => by simpa using h5 x hx k (List.mem_cons_self ..)
      have eb : b.filter (fun x => x != k) = b := List.filter_eq_self.2 fun x hx => by simpa using (h4 x hx).symm
      rw [List.filter_append, List.filter_cons, ea, eb] at h1
      simp at h1 ⊢
      omega
    · have := few_nats k l hp fun x hx => by
        have h1 := h x hx
        have : x ≠ k := fun e => hk (e ▸ hx)
        omega
      omega
theorem Srch.few {d : St → Bool} {A B : Adv} (hA : achk A = 0) (hB : achk B = 0) {vs : List Vs} {ws : List (List Rd)} {i : Nat} {rest : List St} (h : Srch d A B vs ws i rest) : vs.length ≤ 65536 := by
  obtain ⟨_, hb⟩ := h.bfs
  have hlen := h.wok.len
  have hd : (vs.map Vs.pr).Pairwise (· ≠ ·) := by
    rw [← zipv_fst hlen, List.pairwise_map]
    exact hb.diff
  have hp : ((vs.map Vs.pr).map fun p => p.1 * 256 + p.2).Pairwise (· ≠ ·) := by
    rw [List.pairwise_map]
    refine List.Pairwise.imp_of_mem (fun {p q} hp hq hne heq => hne ?_) hd
    obtain ⟨v, hv, rfl⟩ := List.mem_map.1 hp
    obtain ⟨u, hu, rfl⟩ := List.mem_map.1 hq
    have h1 := (h.inb v hv).2
    have h2 := (h.inb u hu).2
    have h3 := (achk_zero hB).2.2.2.1
    simp only at heq
    exact Prod.ext (by show v.p = u.p; omega) (by show v.q = u.q; omega)
  have := few_nats 65536 _ hp fun x hx => by
    obtain ⟨p, hp, rfl⟩ := List.mem_map.1 hx
    obtain ⟨v, hv, rfl⟩ := List.mem_map.1 hp
    have h1 := (h.inb v hv).1
    have h2 := (h.inb v hv).2
    have h3 := (achk_zero hB).2.2.2.1
    have h4 := (achk_zero hA).2.2.2.1
    show v.p * 256 + v.q < _
    omega
  simpa using this
theorem toL_bd {A : Adv} (hA : achk A = 0) {s : Nat} (hs : s < A.L) (r : Rd) : -1 ≤ toL (A.st.getD s []) r ∧ toL (A.st.getD s []) r < A.L := by
  have hL := (achk_zero hA).2.2.1
  by_cases h : 0 ≤ toL (A.st.getD s []) r
  · obtain ⟨m, hm, rfl⟩ := (toL_ge (okM_of hA s) r).1 h
    rw [toL_in (okM_of hA s) hm]
    obtain ⟨i, hi, rfl⟩ := List.getElem_of_mem hm
    have := sound_of (achk_zero hA).2.2.2.2.2.1 s hs i hi
    have e : A.mv s i = (A.st.getD s [])[i] := by
      show (A.st.getD s []).getD i default = _
      rw [List.getD_eq_getElem?_getD, List.getElem?_eq_getElem hi]; rfl
    rw [e] at this
    have h1 := this.1
    have h2 := this.2.1
    omega
  · rw [(toL_lt (okM_of hA s) r).1 (by omega)]
    omega
/-- The bounds of a step. -/
theorem step_bd {A B : Adv} (hA : achk A = 0) (hB : achk B = 0) {s t : Nat} (hs : s < A.L) (ht : t < B.L) {e : St} (he : e ∈ mergeS (A.st.getD s []) (B.st.getD t [])) : -1 ≤ e.x ∧ e.x < A.L ∧ -1 ≤ e.y ∧ e.y < B.L := by
  obtain ⟨_, h2, h3⟩ := (merge_mem _ _ (okM_of hA s) (okM_of hB t) e).1 he
  rw [h2, h3]
  exact ⟨(toL_bd hA hs e.r).1, (toL_bd hA hs e.r).2, (toL_bd hB ht e.r).1, (toL_bd hB ht e.r).2⟩
/-- What the map of the search holds. -/
def seenL (vs : List Vs) : List ((Int × Int) × Value) := vs.map fun v => (((v.p : Int), (v.q : Int)), .bool true)
theorem seen_look (p q : Nat) : ∀ vs : List Vs, (klook (seenL vs) ((p : Int), (q : Int))).getD (.bool false) = .bool (decide (∃ v ∈ vs, v.pr = (p, q)))
  | [] => rfl
  | v :: vs => by
    have ih := seen_look p q vs
    show (if ((p : Int), (q : Int)) = ((v.p : Int), (v.q : Int)) then some (Value.bool true) else klook (seenL vs) ((p : Int), (q : Int))).getD (.bool false) = _
    by_cases h : v.pr = (p, q)
    · have h1 : v.p = p := congrArg Prod.fst h
      have h2 : v.q = q := congrArg Prod.snd h
      rw [if_pos (by rw [h1, h2])]
      rw [decide_eq_true (⟨v, List.mem_cons_self .., h⟩ : ∃ u ∈ v :: vs, u.pr = (p, q))]
      rfl
    · rw [if_neg (fun k => h (by
        injection k with k1 k2
        exact Prod.ext (by show v.p = p; omega) (by show v.q = q; omega))), ih]
      congr 1
      refine decide_eq_decide.2 ⟨fun ⟨u, hu, hue⟩ => ⟨u, List.mem_cons_of_mem _ hu, hue⟩, fun ⟨u, hu, hue⟩ => ?_⟩
      rcases List.mem_cons.1 hu with rfl | hu
      · exact absurd hue h
      · exact ⟨u, hu, hue⟩
theorem seen_put (vs : List Vs) (v : Vs) (h : ¬ ∃ u ∈ vs, u.pr = v.pr) : kput (seenL vs) ((v.p : Int), (v.q : Int)) (.bool true) = seenL (vs ++ [v]) := by
  rw [kput_new]
  · unfold seenL; rw [List.map_append]; rfl
  · induction vs with
    | nil => rfl
    | cons u vs ih =>
      show (if ((v.p : Int), (v.q : Int)) = ((u.p : Int), (u.q : Int)) then some (Value.bool true) else klook (seenL vs) ((v.p : Int), (v.q : Int))) = none
      rw [if_neg (fun k => h ⟨u, List.mem_cons_self .., by
        injection k with k1 k2
        exact Prod.ext (by show u.p = v.p; omega) (by show u.q = v.q; omega)⟩)]
      exact ih fun ⟨x, hx, hxv⟩ => h ⟨x, List.mem_cons_of_mem _ hx, hxv⟩
end Go.Proofs.Ytmkmgimmlohamaa

namespace Go.Proofs.Ytmkmgimmlohamaa
open Go.RowKit
attribute [local go_sem] Oper.semAt_some

theorem wpIn_region_hb {P : Program} {l id : Nat} {Q : Exit → Act → World → Prop} {a : Act} {w : World} {L : List Oper} (S : World → Prop) (B : Nat → Bool) (hm : P.follows .mixedOrders = true) (hd : noDefer L = true)
    (h : ∀ W, W = w.drew → wpAnyT P .any L.toArray S B (fun a w => Q .normal a w) L.toArray.size (Array.replicate L.toArray.size false) a W) : (Code.region id L.toArray true).wpIn (Fence.wide.inRound l) 0 P Q a w :=
  wpIn_region_any hm (wpAnyIn_of_plain hd _ _ _ _ (wpAny_of_T _ _ _ _ (h _ rfl)))
theorem vs_info : (Try.prog.info? 75).map (fun i => (i.zero, i.size, i.bytes)) = some (some (Vs.v default), 10, 80) := by kernel_rfl
theorem alloc7 (w : World) (o0 o1 o2 o3 o4 o5 o6 : Obj) (W : World) (h : ((((((w.alloc o0).alloc o1).alloc o2).alloc o3).alloc o4).alloc o5).alloc o6 = W) :
    W.heap.size = w.heap.size + 7 ∧ Ext w W ∧ W.heap[w.heap.size]? = some o0 ∧ W.heap[w.heap.size + 1]? = some o1 ∧ W.heap[w.heap.size + 2]? = some o2 ∧ W.heap[w.heap.size + 3]? = some o3 ∧ W.heap[w.heap.size + 4]? = some o4 ∧ W.heap[w.heap.size + 5]? = some o5 ∧ W.heap[w.heap.size + 6]? = some o6 := by
  subst h
  refine ⟨by simp, (((((((Ext.refl w).alloc _).alloc _).alloc _).alloc _).alloc _).alloc _).alloc _, ?_, ?_, ?_, ?_, ?_, ?_, ?_⟩
  all_goals
    simp only [show ∀ (V : World) o, (V.alloc o).heap = V.heap.push o from fun _ _ => rfl, Array.getElem?_push, Array.size_push]
    repeat (first | rw [if_pos (by omega)] | rw [if_neg (by omega)])
    try simp
-- FRAME
/-- The frame at the head of the loop over the visits. -/
def srF (z bi : Nat) (us : Nat → Value) (ds : List Deferred) : Act := { tmps := #[us 0, us 1, us 2, .pointer (some ⟨z, 0, none⟩), .pointer (some ⟨z + 1, 0, none⟩), .pointer (some ⟨z + 1 + 1, 0, none⟩), .pointer (some ⟨z + 1 + 1 + 1, 0, none⟩), .pointer (some ⟨z + 1 + 1 + 1 + 1, 0, none⟩), .pointer (some ⟨z + 1 + 1 + 1 + 1 + 1 + 1, 0, none⟩), .pointer (some ⟨z + 7 + 1, 0, none⟩), .pointer (some ⟨bi, 0, none⟩), us 11, us 12, us 13, us 14, us 15, us 16, us 17, us 18, us 19, us 20, us 21, us 22, us 23, us 24, us 25, us 26, us 27, us 28, us 29, us 30, us 31, us 32, us 33, us 34, us 35, us 36, us 37, us 38, us 39, us 40, us 41, us 42, us 43, us 44, us 45, us 46, us 47, us 48, us 49, us 50, us 51, us 52, us 53, us 54, us 55, us 56, us 57, us 58, us 59, us 60, us 61, us 62, us 63, us 64, us 65, us 66, us 67, us 68, us 69, us 70, us 71, us 72, us 73, us 74, us 75, us 76, us 77, us 78, us 79, us 80, us 81, us 82], defers := ds }
/-- The heap at the head of the loop. -/
structure SrW (A B : Adv) (w : World) (F z : Nat) (p : Option Addr) (c : Nat) (q : Option Addr) (k : Nat) (bi i : Nat) (vs : List Vs) (uv : Value) (W : World) : Prop where
  ext : Ext w W
  ab : W.heap[z]? = some (.cells #[.int .i64 A.n, .slice p A.L c] 24 (0, 0))
  bb : W.heap[z + 1]? = some (.cells #[.int .i64 B.n, .slice q B.L k] 24 (0, 0))
  fb : Box W (z + 1 + 1) 71 (.func (.func F) #[] #[])
  r1 : Box W (z + 1 + 1 + 1) 68 (.slice none 0 0)
  r2 : Box W (z + 1 + 1 + 1 + 1) 27 (.slice none 0 0)
  vb : Box W (z + 1 + 1 + 1 + 1 + 1 + 1) 68 uv
  own : Own Vs.cells 10 W (z + 5) 75 uv vs
  mb : Box W (z + 7 + 1) 85 (.map (some (z + 7)))
  km : KM penc W (z + 7) (seenL vs)
  ib : Box W bi 3 (.int .i64 i)
  big : z + 7 + 1 < bi
theorem SrW.mono {A B : Adv} {w : World} {F z : Nat} {p : Option Addr} {c : Nat} {q : Option Addr} {k : Nat} {bi i : Nat} {vs : List Vs} {uv : Value} {W W' : World} (h : SrW A B w F z p c q k bi i vs uv W) (hE : Ext W W') : SrW A B w F z p c q k bi i vs uv W' where
  ext := h.ext.trans hE
  ab := (hE.b.block _ (lt_of_heap h.ab)).trans h.ab
  bb := (hE.b.block _ (lt_of_heap h.bb)).trans h.bb
  fb := h.fb.ext hE
  r1 := h.r1.ext hE
  r2 := h.r2.ext hE
  vb := h.vb.ext hE
  own := h.own.ext hE
  mb := h.mb.ext hE
  km := h.km.ext hE
  ib := h.ib.ext hE
  big := h.big
/-- The head of the loop: a visit is ahead, or all are done. -/
def SrH (d : St → Bool) (A B : Adv) (vs : List Vs) (ws : List (List Rd)) (i : Nat) : Prop :=
  (i < vs.length ∧ Srch d A B vs ws i (mergeS (A.st.getD (vs.getD i default).p []) (B.st.getD (vs.getD i default).q []))) ∨ (i = vs.length ∧ ws.length = vs.length ∧ Full (act := actP d A B) (0, 0) (zipv vs ws))
def SrI (d : St → Bool) (A B : Adv) (w : World) (F z : Nat) (p : Option Addr) (c : Nat) (q : Option Addr) (k : Nat) (n : Nat) (a : Act) (W : World) : Prop :=
  ∃ (ds : List Deferred) (us : Nat → Value) (bi i : Nat) (vs : List Vs) (ws : List (List Rd)) (uv : Value), a = srF z bi us ds ∧ n = 65536 - i ∧ i ≤ vs.length ∧ vs.length ≤ 65536 ∧ SrW A B w F z p c q k bi i vs uv W ∧ SrH d A B vs ws i ∧ Marks z W W.heap.size ds
theorem SrI.intro {d : St → Bool} {A B : Adv} {w : World} {F z : Nat} {p : Option Addr} {c : Nat} {q : Option Addr} {k : Nat} {n : Nat} {a : Act} {W : World} {ds : List Deferred} {bi i : Nat} {vs : List Vs} {ws : List (List Rd)} {uv : Value}
    (h1 : a = srF z bi (fun i => a.tmps.getD i undef) ds) (h2 : n = 65536 - i) (h3 : i ≤ vs.length) (h4 : vs.length ≤ 65536) (h5 : SrW A B w F z p c q k bi i vs uv W) (h6 : SrH d A B vs ws i) (h7 : Marks z W W.heap.size ds) : SrI d A B w F z p c q k n a W :=
  ⟨ds, _, bi, i, vs, ws, uv, h1, h2, h3, h4, h5, h6, h7⟩
/-- In the range over the steps: what holds ahead of step j. -/
structure SrJ (d : St → Bool) (A B : Adv) (w : World) (F z : Nat) (p : Option Addr) (c : Nat) (q : Option Addr) (k : Nat) (bi pb i : Nat) (ds : List Deferred) (L : List St) (j : Nat) (vs : List Vs) (ws : List (List Rd)) (uv : Value) (O : Nat → Prop) (V : World) : Prop where
  w : SrW A B w F z p c q k bi i vs uv V
  s : Srch d A B vs ws i (L.drop j)
  m : Marks z V pb ds
  o : ∀ b, O b → pb < b
  n : ∀ b, uv.ownBlock = some b → ¬ O b
  bp : bi < pb
  pz : pb < V.heap.size
theorem SrJ.rely {d : St → Bool} {A B : Adv} {w : World} {F z : Nat} {p : Option Addr} {c : Nat} {q : Option Addr} {k : Nat} {bi pb i : Nat} {ds : List Deferred} {L : List St} {j : Nat} {vs : List Vs} {ws : List (List Rd)} {uv : Value} {O O' : Nat → Prop} {V V' : World} {Bz : Nat}
    (h : SrJ d A B w F z p c q k bi pb i ds L j vs ws uv O V) (hz : w.heap.size = z) (hB : pb < Bz) (hC : OffC Bz O V V') (hG : Grow O O' V V') : SrJ d A B w F z p c q k bi pb i ds L j vs ws uv O' V' := by
  have hbig := h.w.big
  have hbp := h.bp
  have no : ∀ b, b ≤ pb → ¬ O b := fun b hb ho => by have := h.o b ho; omega
  refine ⟨⟨h.w.ext.offc hC (by omega) (fun b hb => by have := h.o b hb; omega), hC.cells _ _ _ _ h.w.ab (no _ (by omega)), hC.cells _ _ _ _ h.w.bb (no _ (by omega)), hC.cells _ _ _ _ h.w.fb (no _ (by omega)), hC.cells _ _ _ _ h.w.r1 (no _ (by omega)), hC.cells _ _ _ _ h.w.r2 (no _ (by omega)), hC.cells _ _ _ _ h.w.vb (no _ (by omega)),
    h.w.own.of_block (fun b hb => ?_), hC.cells _ _ _ _ h.w.mb (no _ (by omega)), h.w.km.of_block (hC.low _ (by omega) h.w.km.lt (no _ (by omega))), hC.cells _ _ _ _ h.w.ib (no _ (by omega)), hbig⟩, h.s, h.m.of_heap (fun b _ hb hh => hC.low b (by omega) (lt_of_heap hh) (no _ (by omega))), fun b hb => ?_, fun b hb ho => ?_, hbp, ?_⟩
  · obtain ⟨cur, fr, hh⟩ := h.w.own.typed b hb
    rw [hC.cells _ _ _ _ hh (h.n b hb), hh]
  · rcases (hG b hb).1 with h1 | h1
    · exact h.o b h1
    · have := h.pz; omega
  · rcases (hG b ho).1 with h1 | h1
    · exact h.n b hb h1
    · obtain ⟨cur, fr, hh⟩ := h.w.own.typed b hb
      have := lt_of_heap hh
      omega
  · have := h.pz; have := hC.size; omega
/-- A difference was found: the results lie in their boxes. -/
structure SrX (d : St → Bool) (A B : Adv) (w : World) (z pb : Nat) (ds : List Deferred) (vs : List Vs) (uv : Value) (word : List Rd) (g n c : Nat) (O : Nat → Prop) (V : World) : Prop where
  ext : Ext w V
  m : Marks z V pb ds
  o : ∀ b, O b → pb < b
  pz : pb < V.heap.size
  zp : z + 1 + 1 + 1 + 1 < pb
  b1 : Box V (z + 1 + 1 + 1) 68 uv
  b2 : Box V (z + 1 + 1 + 1 + 1) 27 (.slice (some ⟨g, 0, none⟩) n c)
  own : Own Vs.cells 10 V (z + 5) 75 uv vs
  nb : ∀ b, uv.ownBlock = some b → ¬ O b
  row : Row Rd.cells 7 V (.slice (some ⟨g, 0, none⟩) n c) word
  ty : ∃ cur e fr, V.heap[g]? = some (.cells cur e fr)
  no : ¬ O g
  len : vs.length ≤ 65536
  ne : word ≠ []
  mark : markA (actP d A B) (0, 0) word
  least : ∀ u, markA (actP d A B) (0, 0) u → Wle word u
theorem SrX.rely {d : St → Bool} {A B : Adv} {w : World} {z pb : Nat} {ds : List Deferred} {vs : List Vs} {uv : Value} {word : List Rd} {g n c : Nat} {O O' : Nat → Prop} {V V' : World} {Bz : Nat}
    (h : SrX d A B w z pb ds vs uv word g n c O V) (hz : w.heap.size = z) (hB : pb < Bz) (hC : OffC Bz O V V') (hG : Grow O O' V V') : SrX d A B w z pb ds vs uv word g n c O' V' := by
  have hzp := h.zp
  have no : ∀ b, b ≤ pb → ¬ O b := fun b hb ho => by have := h.o b ho; omega
  obtain ⟨cur, e, fr, hh⟩ := h.ty
  have hg := hC.cells _ _ _ _ hh h.no
  refine ⟨h.ext.offc hC (by omega) (fun b hb => by have := h.o b hb; omega), h.m.of_heap (fun b _ hb hh => hC.low b (by omega) (lt_of_heap hh) (no _ (by omega))), fun b hb => ?_, ?_, hzp, hC.cells _ _ _ _ h.b1 (no _ (by omega)), hC.cells _ _ _ _ h.b2 (no _ (by omega)), h.own.of_block (fun b hb => ?_), fun b hb ho => ?_, h.row.block (hg.trans hh.symm) (lt_of_heap hg), ⟨_, _, _, hg⟩, fun ho => ?_, h.len, h.ne, h.mark, h.least⟩
  · rcases (hG b hb).1 with h1 | h1
    · exact h.o b h1
    · have := h.pz; omega
  · have := h.pz; have := hC.size; omega
  · obtain ⟨cur, fr, hh⟩ := h.own.typed b hb
    rw [hC.cells _ _ _ _ hh (h.nb b hb), hh]
  · rcases (hG b ho).1 with h1 | h1
    · exact h.nb b hb h1
    · obtain ⟨cur, fr, hh⟩ := h.own.typed b hb
      have := lt_of_heap hh
      omega
  · rcases (hG g ho).1 with h1 | h1
    · exact h.no h1
    · have := lt_of_heap hh
      omega
-- END
def RetSr (d : St → Bool) (A B : Adv) (w : World) (en : Ending) (w' : World) : Prop :=
  ∃ vs uv x, en = .returned (.tuple #[uv, x]) ∧ Ext w w' ∧ Row Vs.cells 10 w' uv vs ∧
    ((∃ word, Row Rd.cells 7 w' x word ∧ word ≠ [] ∧ markA (actP d A B) (0, 0) word ∧ ∀ u, markA (actP d A B) (0, 0) u → Wle word u) ∨
      (x = .slice none 0 0 ∧ ∃ ws, ws.length = vs.length ∧ Full (act := actP d A B) (0, 0) (zipv vs ws)))
set_option maxRecDepth 16000 in
set_option maxHeartbeats 4000000 in
theorem search_any (d : St → Bool) (F : Nat) (hF : ∀ e W, Calls Try.prog F #[St.v e] W fun en w' => en = .returned (.bool (d e)) ∧ Ext W w') (eF : ∀ args w, (callFunc F args).run Try.prog w = .ok (.enter F args) w)
    (A B : Adv) (u v : Value) (w : World) (hA : AdvRep w u A) (hB : AdvRep w v B) (h1 : achk A = 0) (h2 : achk B = 0) :
    Calls Try.prog 33 #[u, v, .func (.func F) #[] #[]] w (RetSr d A B w) := by
  obtain ⟨p, c, rfl, -, -, hatA⟩ := hA.all_
  obtain ⟨q, k, rfl, -, -, hatB⟩ := hB.all_
  have HA := hide hA
  have HB := hide hB
  have HATA := hide hatA
  have HATB := hide hatB
  have H1 := hide h1
  have H2 := hide h2
  have HF := hide hF
  have HEF := hide eF
  clear hA hB hatA hatB h1 h2 hF eF
  refine calls_of_wp_m Try.func33 rfl ?_
  simp only [Try.ntmps33, List.size_toArray, List.length_cons, List.length_nil, Nat.reduceAdd, Nat.reduceSub, Array.replicate_succ, Array.replicate_zero, List.push_toArray, List.append_toArray, List.nil_append, List.cons_append]
  go_upto_region 2 with fail
  obtain ⟨W7, hW7⟩ : ∃ W7, ((((((w.alloc (.cells #[.int .i64 A.n, .slice p A.L c] 24)).alloc (.cells #[.int .i64 B.n, .slice q B.L k] 24)).alloc (.cells #[.func (.func F) #[] #[]] 71)).alloc (.cells #[.slice none 0 0] 68)).alloc (.cells #[.slice none 0 0] 27)).alloc
    (.cells #[.int .i64 0, .int .i64 0, .int .i64 0, .int .i64 0, .int .i64 0, .int .i64 0, .int .i64 0, .int .i64 0, .int .i64 0, .int .i64 0] 75)).alloc (.cells #[.slice (some ⟨w.heap.size + 1 + 1 + 1 + 1 + 1, 0, none⟩) 1 1] 68) = W7 := ⟨_, rfl⟩
  rw [hW7]
  obtain ⟨z, hz⟩ : ∃ z, w.heap.size = z := ⟨_, rfl⟩
  obtain ⟨hs7, hE7, q0, q1, q2, q3, q4, q5, q6⟩ := alloc7 _ _ _ _ _ _ _ _ W7 hW7
  rw [hz] at hs7 q0 q1 q2 q3 q4 q5 q6 ⊢
  have HZ := hide hz
  have HS7 := hide hs7
  have HE7 := hide hE7
  have HQ := hide (And.intro q0 (And.intro q1 (And.intro q2 (And.intro q3 (And.intro q4 (And.intro q5 q6))))))
  have hub : ∀ W, (underlying 85).run Try.prog W = .ok (.map 45 4) W := fun W => by kernel_rfl
  have hmm := @run_makeMap Try.prog
  have hk0 : KM penc (W7.alloc (.map #[] 0)) W7.heap.size [] := KM.new _ _
  obtain ⟨ob, ⟨es, cl, rfl⟩, hput, hkm⟩ := hk0.put pkey_ok hub (0, 0) (.bool true)
  rw [hs7] at hput hkm
  have HKM := hide hkm
  have HUB := hide hub
  unfold penc at hput
  clear hW7 hz hE7 q0 q1 q2 q3 q4 q5 q6 hk0 hkm hub
  go_upto_region 4 with fail
  obtain ⟨W0, hW0⟩ : ∃ W0, (((W7.alloc (.map #[] 0)).putObj (z + 7) (.map es cl)).alloc (.cells #[.map (some (z + 7))] 85)).alloc (.cells #[.int .i64 0] 3) = W0 := ⟨_, rfl⟩
  have HW : Hid (SrW A B w F z p c q k (z + 7 + 1 + 1) 0 [⟨0, 0, 0, default⟩] (.slice (some ⟨z + 1 + 1 + 1 + 1 + 1, 0, none⟩) 1 1) W0) := by
    obtain ⟨q0, q1, q2, q3, q4, q5, q6⟩ := HQ.out
    have hs7 := HS7.out
    have low : ∀ b, b < z + 7 → W0.heap[b]? = W7.heap[b]? := fun b hb => by
      rw [← hW0, Below.heap_alloc _ _ _ (by simp [World.putObj, hs7]; omega), Below.heap_alloc _ _ _ (by simp [World.putObj, hs7]; omega), World.putObj_heap_other (by omega), Below.heap_alloc _ _ _ (by omega)]
    have hV : ((W7.alloc (.map #[] 0)).putObj (z + 7) (.map es cl)).heap.size = z + 7 + 1 := by simp [hs7]
    have hV1 : (((W7.alloc (.map #[] 0)).putObj (z + 7) (.map es cl)).alloc (.cells #[.map (some (z + 7))] 85)).heap.size = z + 7 + 1 + 1 := by simp [hs7]
    have hm := Box.new ((W7.alloc (.map #[] 0)).putObj (z + 7) (.map es cl)) 85 (.map (some (z + 7)))
    have hi := Box.new (((W7.alloc (.map #[] 0)).putObj (z + 7) (.map es cl)).alloc (.cells #[.map (some (z + 7))] 85)) 3 (.int .i64 0)
    rw [hV] at hm
    rw [hV1, hW0] at hi
    have hE2 : Ext ((W7.alloc (.map #[] 0)).putObj (z + 7) (.map es cl)) W0 := by rw [← hW0]; exact ((Ext.refl _).alloc _).alloc _
    refine ⟨?_, (low _ (by omega)).trans q0, (low _ (by omega)).trans q1, (low _ (by omega)).trans q2, (low _ (by omega)).trans q3, (low _ (by omega)).trans q4, (low _ (by omega)).trans q6, ?_, ?_, HKM.out.ext hE2, hi, by omega⟩
    · exact ((HE7.out.alloc _).putObj (by rw [HZ.out]; omega) _).trans hE2
    · exact ⟨fun _ => rfl, rfl, .inr ⟨z + 5, 1, _, rfl, Nat.le_refl _, (low _ (by omega)).trans q5, Nat.le_refl _, by unfold maxLen; omega, rfl, rfl⟩⟩
    · have := hm.alloc (.cells #[.int .i64 0] 3)
      rwa [hW0] at this
  rw [hW0]
  clear hW0 hput hmm HKM HQ HS7 HE7 hs7 W7
  have HST := hide (Srch.start d H1.out H2.out)
  refine wp_loop_ghost_k (SrI d A B w F z p c q k) 65536 ?_ ?_
  · exact SrI.intro (i := 0) (vs := [⟨0, 0, 0, default⟩]) (ws := [[]]) rfl rfl (by simp) (by simp) HW.out (.inl ⟨by simp, HST.out⟩) trivial
  · rintro n a wr ⟨ds, us, bi, i, vs, ws, uv, rfl, hn, hi, hlen, hW, hH, hM⟩ J KK hJ hKK
    have HJ := hide hJ
    have HN := hide hn
    have HM := hide hM
    have HWR := hide hW
    have HH := hide hH
    clear hJ hn hM hH HST HW W0
    dsimp only [srF]
    obtain ⟨pv, cv, huv, hcv⟩ : ∃ pv cv, uv = .slice pv vs.length cv ∧ vs.length ≤ cv := by
      obtain ⟨pv, cv, h1, h2, -⟩ := (hW.own.row (by omega)).vs_all
      exact ⟨pv, cv, h1, h2⟩
    subst huv
    have v0 := hW.vb.cell
    have i0 := hW.ib.cell
    have vz := hW.vb.lt
    have iz := hW.ib.lt
    clear hW
    by_cases hlt : i < vs.length
    · have hli : (i : Int) < (vs.length : Int) := by omega
      obtain ⟨gv, rfl, hgv⟩ : ∃ gv, pv = some ⟨gv, 0, none⟩ ∧ gv < wr.heap.size ∧ ∀ j u, (Vs.cells (vs.getD i default))[j]? = some u → wr.cell? ⟨gv, i * 10 + j, none⟩ = some u := by
        rcases HWR.out.own.form with ⟨h, h0⟩ | ⟨gv, c', h, hg1, hg2, -, -⟩
        · rw [h0] at hlt; exact absurd hlt (Nat.not_lt_zero _)
        · obtain ⟨p', c2, h3, -, -, h4⟩ := (HWR.out.own.row (by omega)).vs_all
          injection h with e1 e2 e3
          injection h3 with e4 e5 e6
          obtain ⟨b, o, h5, h6, h7⟩ := h4 (by omega)
          have e7 : (some (⟨gv, 0, none⟩ : Addr)) = some ⟨b, o, none⟩ := by rw [← e1, e4, h5]
          injection e7 with e7
          injection e7 with e8 e9
          subst e8 e9
          exact ⟨gv, e1, hg2, fun j u hu => by have := h7 i hlt j u hu; rwa [Nat.zero_add] at this⟩
      obtain ⟨hgz, hat⟩ := hgv
      obtain ⟨sp, hsp⟩ : ∃ sp, (vs.getD i default).p = sp := ⟨_, rfl⟩
      obtain ⟨tq, htq⟩ : ∃ tq, (vs.getD i default).q = tq := ⟨_, rfl⟩
      have hbd : sp < A.L ∧ tq < B.L := by
        rcases HH.out with ⟨_, h⟩ | ⟨h, _⟩
        · rw [← hsp, ← htq]
          refine h.inb _ ?_
          rw [List.getD_eq_getElem?_getD, List.getElem?_eq_getElem hlt]
          exact List.getElem_mem hlt
        · omega
      have g0 := hat 0 _ rfl
      have g1 := hat 1 _ rfl
      rw [hsp, Nat.add_zero] at g0
      rw [htq] at g1
      have HSP := hide hsp
      have HTQ := hide htq
      have HBD := hide hbd
      clear hat hsp htq hbd
      go_upto_region 7 with fail
      have hE := (Ext.refl wr).alloc (.cells #[.int .i64 sp, .int .i64 tq] 45)
      have HWP := hide (HWR.out.mono hE)
      have HMP := hide (HM.out.of_heap (fun b _ hb _ => hE.b.block b hb))
      have HPB : Hid ((wr.alloc (.cells #[.int .i64 sp, .int .i64 tq] 45)).heap[wr.heap.size]? = some (.cells #[.int .i64 sp, .int .i64 tq] 45 (0, 0))) := heap_alloc_new wr _
      have HSZ : Hid (wr.heap.size < (wr.alloc (.cells #[.int .i64 sp, .int .i64 tq] 45)).heap.size) := by show _ < _; simp
      have HBP : Hid (bi < wr.heap.size) := HWR.out.ib.lt
      have HGV : Hid (gv < wr.heap.size) := hgz
      clear hE v0 i0 vz iz g0 g1 hgz
      generalize wr.alloc (.cells #[.int .i64 sp, .int .i64 tq] 45) = Wp at HWP HMP HPB HSZ ⊢
      obtain ⟨pb, hpb⟩ : ∃ pb, wr.heap.size = pb := ⟨_, rfl⟩
      rw [hpb] at HPB HSZ HMP HBP HGV
      rw [hpb]
      clear hpb
      have hLA := HBD.out.1
      have hLB := HBD.out.2
      have hlA : (sp : Int) < (A.L : Int) := by omega
      have hlB : (tq : Int) < (B.L : Int) := by omega
      obtain ⟨ba, oa, rfl, hba, hsa⟩ := HATA.out (by omega)
      obtain ⟨qa, da, hca, -, -, hra, -⟩ := hsa sp hLA
      obtain ⟨bb, ob, rfl, hbb, hsb⟩ := HATB.out (by omega)
      obtain ⟨qb, db, hcb, -, -, hrb, -⟩ := hsb tq hLB
      have HCA := hide hca
      have HCB := hide hcb
      have HRA := hide hra
      have HRB := hide hrb
      clear hsa hsb hca hcb hra hrb
      refine wp_region_heldB (fun Z => Ext Wp Z) (fun _ => false) (by kernel_rfl) ?_
      intro Z8 hZ8
      have hSd : Ext Wp Z8 := by rw [hZ8]; exact (Ext.refl _).drew
      clear hZ8
      refine wpAnyT_takeB (i := 0) (.pointer (some ⟨z, 1, none⟩)) rfl (by kernel_rfl) (fun j hj => by cases hj) (by kernel_rfl) (by kernel_rfl) (by simp [Region.wanted]) (fun Z hZ => by
        go_simp) hSd ?_
      try simp only [Act.put, List.getElem_toArray, List.setIfInBounds_toArray]
      refine wpAnyT_takeB (i := 1) (.slice (some ⟨ba, oa, none⟩) A.L c) rfl (by kernel_rfl) (fun j hj => by cases hj) (by kernel_rfl) (by kernel_rfl) (by simp [Region.wanted]) (fun Z hZ => by
        have x1 := dcell ((hZ.b.block _ (lt_of_heap HWP.out.ab)).trans HWP.out.ab) 1
        have xz := lt_of_heap ((hZ.b.block _ (lt_of_heap HWP.out.ab)).trans HWP.out.ab)
        go_simp) hSd ?_
      try simp only [Act.put, List.getElem_toArray]
      refine wpAnyT_takeB (i := 2) (.pointer (some ⟨pb, 0, none⟩)) rfl (by kernel_rfl) (fun j hj => by cases hj) (by kernel_rfl) (by kernel_rfl) (by simp [Region.wanted]) (fun Z hZ => by
        go_simp) hSd ?_
      try simp only [Act.put, List.getElem_toArray]
      refine wpAnyT_takeB (i := 3) (.int .i64 sp) rfl (by kernel_rfl) (fun j hj => by cases hj) (by kernel_rfl) (by kernel_rfl) (by simp [Region.wanted]) (fun Z hZ => by
        have x0 := dcell ((hZ.b.block _ (lt_of_heap HPB.out)).trans HPB.out) 0
        have xz := lt_of_heap ((hZ.b.block _ (lt_of_heap HPB.out)).trans HPB.out)
        go_simp) hSd ?_
      try simp only [Act.put, List.getElem_toArray]
      refine wpAnyT_takeB (i := 4) (.pointer (some ⟨ba, oa + sp, none⟩)) rfl (by kernel_rfl) (fun j hj => by cases hj) (by kernel_rfl) (by kernel_rfl) (by simp [Region.wanted]) (fun Z hZ => by
        go_simp) hSd ?_
      try simp only [Act.put, List.getElem_toArray]
      refine wpAnyT_takeB (i := 5) (.slice qa (A.len sp) da) rfl (by kernel_rfl) (fun j hj => by cases hj) (by kernel_rfl) (by kernel_rfl) (by simp [Region.wanted]) (fun Z hZ => by
        have x0 := HCA.out Z (HWP.out.ext.trans hZ)
        have xz : ba < Z.heap.size := Nat.lt_of_lt_of_le hba (HWP.out.ext.trans hZ).size
        go_simp) hSd ?_
      try simp only [Act.put, List.getElem_toArray]
      refine wpAnyT_takeB (i := 6) (.pointer (some ⟨z + 1, 1, none⟩)) rfl (by kernel_rfl) (fun j hj => by cases hj) (by kernel_rfl) (by kernel_rfl) (by simp [Region.wanted]) (fun Z hZ => by
        go_simp) hSd ?_
      try simp only [Act.put, List.getElem_toArray]
      refine wpAnyT_takeB (i := 7) (.slice (some ⟨bb, ob, none⟩) B.L k) rfl (by kernel_rfl) (fun j hj => by cases hj) (by kernel_rfl) (by kernel_rfl) (by simp [Region.wanted]) (fun Z hZ => by
        have x1 := dcell ((hZ.b.block _ (lt_of_heap HWP.out.bb)).trans HWP.out.bb) 1
        have xz := lt_of_heap ((hZ.b.block _ (lt_of_heap HWP.out.bb)).trans HWP.out.bb)
        go_simp) hSd ?_
      try simp only [Act.put, List.getElem_toArray]
      refine wpAnyT_takeB (i := 8) (.pointer (some ⟨pb, 1, none⟩)) rfl (by kernel_rfl) (fun j hj => by cases hj) (by kernel_rfl) (by kernel_rfl) (by simp [Region.wanted]) (fun Z hZ => by
        go_simp) hSd ?_
      try simp only [Act.put, List.getElem_toArray]
      refine wpAnyT_takeB (i := 9) (.int .i64 tq) rfl (by kernel_rfl) (fun j hj => by cases hj) (by kernel_rfl) (by kernel_rfl) (by simp [Region.wanted]) (fun Z hZ => by
        have x0 := dcell ((hZ.b.block _ (lt_of_heap HPB.out)).trans HPB.out) 1
        have xz := lt_of_heap ((hZ.b.block _ (lt_of_heap HPB.out)).trans HPB.out)
        go_simp) hSd ?_
      try simp only [Act.put, List.getElem_toArray]
      refine wpAnyT_takeB (i := 10) (.pointer (some ⟨bb, ob + tq, none⟩)) rfl (by kernel_rfl) (fun j hj => by cases hj) (by kernel_rfl) (by kernel_rfl) (by simp [Region.wanted]) (fun Z hZ => by
        go_simp) hSd ?_
      try simp only [Act.put, List.getElem_toArray]
      refine wpAnyT_takeB (i := 11) (.slice qb (B.len tq) db) rfl (by kernel_rfl) (fun j hj => by cases hj) (by kernel_rfl) (by kernel_rfl) (by simp [Region.wanted]) (fun Z hZ => by
        have x0 := HCB.out Z (HWP.out.ext.trans hZ)
        have xz : bb < Z.heap.size := Nat.lt_of_lt_of_le hbb (HWP.out.ext.trans hZ).size
        go_simp) hSd ?_
      try simp only [Act.put, List.getElem_toArray]
      refine wpAnyT_oneB (i := 12) rfl (by kernel_rfl) (fun KK' hKK' => ?_)
      go_wp2_with fail
      refine (steps_any _ _ ⟨_, _, _, rfl⟩ ⟨_, _, _, rfl⟩ Z8).mono ?_
      rintro e W9 ⟨rfl, hW9⟩
      have hE9 : Ext Z8 W9 := by rw [hW9]; exact ((Ext.refl _).alloc _).alloc _
      have hx9 : MBox W9 Z8.heap.size (.slice qa (A.len sp) da) := by rw [hW9]; exact (Below.heap_alloc _ _ _ (by simp)).trans (heap_alloc_new Z8 _)
      have hy9 : MBox W9 (Z8.heap.size + 1) (.slice qb (B.len tq) db) := by
        rw [hW9]
        have := heap_alloc_new (Z8.alloc (.cells #[.slice qa (A.len sp) da] 89)) (.cells #[.slice qb (B.len tq) db] 89)
        rwa [World.size_alloc] at this
      clear hW9
      go_wp2_with fail
      refine ⟨rfl, hKK' _ _ (fun _ => hSd.trans hE9) ?_⟩
      clear hKK' KK'
      refine wpAnyT_done (by kernel_rfl) ?_ _
      have HX9 := hide hx9
      have HY9 := hide hy9
      have HGP : Hid (Wp.heap.size ≤ Z8.heap.size) := hSd.size
      have hE10 := hSd.trans hE9
      have HW9 := hide (HWP.out.mono hE10)
      have HM9 := hide (HMP.out.of_heap (fun b _ hb _ => hE10.b.block b (by have := HSZ.out; omega)))
      have HZ9 := hide hE10.size
      clear hSd hE9 hE10 hx9 hy9
      obtain ⟨g, hg⟩ : ∃ g, Z8.heap.size = g := ⟨_, rfl⟩
      rw [hg] at HX9 HY9 HGP
      rw [hg]
      clear hg Z8
      go_wp2_with fail
      have HST : Hid (Srch d A B vs ws i (mergeS (A.st.getD sp []) (B.st.getD tq []))) := by
        rcases HH.out with ⟨_, h⟩ | ⟨h, _⟩
        · rw [HSP.out, HTQ.out] at h; exact h
        · omega
      have HSEQ := hide (steps_seq (A.st.getD sp []) (B.st.getD tq []) g (.slice qa (A.len sp) da) (.slice qb (B.len tq) db))
      have HBDS := hide (fun e he => step_bd H1.out H2.out hLA hLB (e := e) he)
      obtain ⟨L, hL⟩ : ∃ L, mergeS (A.st.getD sp []) (B.st.getD tq []) = L := ⟨_, rfl⟩
      rw [hL] at HST HSEQ HBDS
      have HZW : Hid (w.heap.size = z) := HZ
      have hpz : pb < W9.heap.size := by have := HSZ.out; have := HZ9.out; omega
      have hgp : pb < g := by have := HSZ.out; have := HGP.out; omega
      have hbp : bi < pb := HBP.out
      clear hL
      refine wp_rangeX (n := L.length) rfl (fun _ _ => rfl) HSEQ.out (fun i O x V hi hX => by obtain ⟨e, _, rfl⟩ := hX; rfl)
        (fun j O V => ∃ vs ws uv, SrJ d A B w F z (some ⟨ba, oa, none⟩) c (some ⟨bb, ob, none⟩) k bi pb i ds L j vs ws uv O V)
        (fun c O V => c = .ret ∧ ∃ vs uv word g n c, SrX d A B w z pb ds vs uv word g n c O V) ?_ ?_ ?_ ?_ ?_ ?_ ?_ ?_ ?_
      · rintro j O V ⟨_, _, _, h⟩
        exact ⟨HRA.out.ext h.w.ext, HRB.out.ext h.w.ext⟩
      · rintro j O O' V V' ⟨vs, ws, uv, h⟩ hC hG
        exact ⟨vs, ws, uv, h.rely HZW.out hpz hC hG⟩
      · rintro c O O' V V' ⟨rfl, vs, uv, word, g, n, c, h⟩ hC hG
        exact ⟨rfl, vs, uv, word, g, n, c, h.rely HZW.out hpz hC hG⟩
      · intro V hE
        exact ⟨(hE.b.block _ (lt_of_heap HX9.out)).trans HX9.out, (hE.b.block _ (lt_of_heap HY9.out)).trans HY9.out⟩
      · rintro b (rfl | rfl)
        · exact lt_of_heap HX9.out
        · exact lt_of_heap HY9.out
      · refine ⟨vs, ws, _, HW9.out, by rw [List.drop_zero]; exact HST.out, HM9.out, fun b hb => by rcases hb with rfl | rfl <;> omega, fun b hb ho => ?_, hbp, hpz⟩
        have hbg : gv = b := by injection hb
        have := HGV.out
        rcases ho with h | h <;> omega
      · rintro lp j x O V hj ⟨e, he, rfl⟩ ⟨vs1, ws1, uv1, hS⟩ hOV hlp hlV
        have hE1 := (Ext.refl V).alloc (.cells #[.int .i64 e.r.g.n, .int .i64 e.r.g.h0, .int .i64 e.r.g.h1, .int .i64 e.r.g.h2, .int .i64 e.r.g.h3, .int .i64 e.r.g.h4, .int .i64 e.r.f, .int .i64 e.x, .int .i64 e.y] 83)
        have hS1 := hS.rely HZW.out hpz (OffC.of_off (Off.of_ext hE1)) (Grow.same hOV hE1.size)
        have hsb := heap_alloc_new V (.cells #[.int .i64 e.r.g.n, .int .i64 e.r.g.h0, .int .i64 e.r.g.h1, .int .i64 e.r.g.h2, .int .i64 e.r.g.h3, .int .i64 e.r.g.h4, .int .i64 e.r.f, .int .i64 e.x, .int .i64 e.y] 83)
        have HS1 := hide hS1
        have HSB1 := hide hsb
        have HOV1 : Hid (∀ b, O b → b < (V.alloc (.cells #[.int .i64 e.r.g.n, .int .i64 e.r.g.h0, .int .i64 e.r.g.h1, .int .i64 e.r.g.h2, .int .i64 e.r.g.h3, .int .i64 e.r.g.h4, .int .i64 e.r.f, .int .i64 e.x, .int .i64 e.y] 83)).heap.size) := fun b hb => Nat.lt_of_lt_of_le (hOV b hb) hE1.size
        have hls := hS.s
        have hLj : L.drop j = e :: L.drop (j + 1) := by
          have hh := (List.getElem?_eq_some_iff.1 he).2
          rw [List.drop_eq_getElem_cons hj, hh]
        rw [hLj] at hls
        have hem : e ∈ L := List.mem_of_getElem? he
        have HLS := hide hls
        have HEB := hide (HBDS.out e hem)
        have HOP := hide hS.o
        have HVZ : Hid (¬ O V.heap.size) := fun h => Nat.lt_irrefl _ (hOV _ h)
        have HPV : Hid (pb < V.heap.size) := hS.pz
        clear hE1 hS1 hsb hls hLj hem hS hlp hlV
        gi_wp2_with fail
        refine ⟨KFO.of_ext ((Ext.refl _).alloc _) hOV, fun W2 hC hKO => ?_⟩
        have HS2 := hide (HS1.out.rely HZW.out hpz (OffC.of_chg hC) (Grow.same HOV1.out hC.size))
        have HSB2 := hide (hC.cells _ _ _ _ HSB1.out)
        have HOV2 : Hid (∀ b, O b → b < W2.heap.size) := fun b hb => Nat.lt_of_lt_of_le (HOV1.out b hb) hC.size
        clear hC hKO HS1 HSB1 HOV1 hOV
        obtain ⟨sb, hsb⟩ : ∃ sb, V.heap.size = sb := ⟨_, rfl⟩
        rw [hsb] at HSB2 HVZ HPV
        rw [hsb]
        clear hsb V
        have f0 := HS2.out.w.fb.cell
        have fz := HS2.out.w.fb.lt
        have c0 := dcell HSB2.out 0
        have c1 := dcell HSB2.out 1
        have c2 := dcell HSB2.out 2
        have c3 := dcell HSB2.out 3
        have c4 := dcell HSB2.out 4
        have c5 := dcell HSB2.out 5
        have c6 := dcell HSB2.out 6
        have c7 := dcell HSB2.out 7
        have c8 := dcell HSB2.out 8
        have sz := lt_of_heap HSB2.out
        have hef := HEF.out
        gi_wp2_with fail
        refine ⟨trivial, rfl, CallsIn.inRound lp ((callsIn_wide (n := 0)).2 ((HF.out e W2).mono ?_))⟩
        rintro en W3 ⟨rfl, hE3⟩
        have HS3 := hide (HS2.out.rely HZW.out hpz (OffC.of_off (Off.of_ext hE3)) (Grow.same HOV2.out hE3.size))
        have HSB3 := hide ((hE3.b.block _ (lt_of_heap HSB2.out)).trans HSB2.out)
        have HOV3 : Hid (∀ b, O b → b < W3.heap.size) := fun b hb => Nat.lt_of_lt_of_le (HOV2.out b hb) hE3.size
        have HK3 := hide (KFO.of_ext (B := W9.heap.size) hE3 HOV2.out)
        clear hE3 HS2 HSB2 HOV2 f0 fz c0 c1 c2 c3 c4 c5 c6 c7 c8 sz hef
        have c0 := dcell HSB3.out 0
        have c1 := dcell HSB3.out 1
        have c2 := dcell HSB3.out 2
        have c3 := dcell HSB3.out 3
        have c4 := dcell HSB3.out 4
        have c5 := dcell HSB3.out 5
        have c6 := dcell HSB3.out 6
        have c7 := dcell HSB3.out 7
        have c8 := dcell HSB3.out 8
        have sz := lt_of_heap HSB3.out
        obtain ⟨dd, hdd⟩ : ∃ dd, d e = dd := ⟨_, rfl⟩
        rw [hdd]
        have HDD := hide hdd
        clear hdd
        cases dd with
        | true =>
          clear c0 c1 c2 c3 c4 c5 c6 c7 c8 sz
          gi_upto_region 10 with fail
          have hlen1 := HS3.out.s.few H1.out H2.out
          obtain ⟨su, sc, rfl⟩ := HS3.out.w.own.sl
          have hvb : W3.heap[z + 1 + 1 + 1 + 1 + 1 + 1]? = _ := HS3.out.w.vb
          have hib : W3.heap[bi]? = _ := HS3.out.w.ib
          refine wpIn_region_hb (fun Z : World => Z.heap[z + 1 + 1 + 1 + 1 + 1 + 1]? = W3.heap[z + 1 + 1 + 1 + 1 + 1 + 1]? ∧ Z.heap[bi]? = W3.heap[bi]? ∧ Z.heap[sb]? = W3.heap[sb]?) (fun _ => false) (by kernel_rfl) (by kernel_rfl) ?_
          intro W3d hW3d
          have hEd : Ext W3 W3d := by rw [hW3d]; exact (Ext.refl _).drew
          have hSd : W3d.heap[z + 1 + 1 + 1 + 1 + 1 + 1]? = W3.heap[z + 1 + 1 + 1 + 1 + 1 + 1]? ∧ W3d.heap[bi]? = W3.heap[bi]? ∧ W3d.heap[sb]? = W3.heap[sb]? := ⟨hEd.b.block _ (lt_of_heap hvb), hEd.b.block _ (lt_of_heap hib), hEd.b.block _ (lt_of_heap HSB3.out)⟩
          clear hW3d
          have HEd := hide hEd
          clear hEd
          refine wpAnyT_takeB (i := 0) (.slice su vs1.length sc) rfl (by kernel_rfl) (fun j hj => by cases hj) (by kernel_rfl) (by kernel_rfl) (by simp [Region.wanted]) (fun Z hZ => by
            have x0 := dcell (hZ.1.trans hvb) 0
            have xz := lt_of_heap (hZ.1.trans hvb)
            go_simp) hSd ?_
          try simp only [Act.put, List.getElem_toArray, List.setIfInBounds_toArray]
          refine wpAnyT_takeB (i := 1) (.slice su vs1.length sc) rfl (by kernel_rfl) (fun j hj => by cases hj) (by kernel_rfl) (by kernel_rfl) (by simp [Region.wanted]) (fun Z hZ => by
            have x0 := dcell (hZ.1.trans hvb) 0
            have xz := lt_of_heap (hZ.1.trans hvb)
            go_simp) hSd ?_
          try simp only [Act.put, List.getElem_toArray]
          refine wpAnyT_takeB (i := 2) (.int .i64 i) rfl (by kernel_rfl) (fun j hj => by cases hj) (by kernel_rfl) (by kernel_rfl) (by simp [Region.wanted]) (fun Z hZ => by
            have x0 := dcell (hZ.2.1.trans hib) 0
            have xz := lt_of_heap (hZ.2.1.trans hib)
            go_simp) hSd ?_
          try simp only [Act.put, List.getElem_toArray]
          refine wpAnyT_takeB (i := 3) (.pointer (some ⟨sb, 0, none⟩)) rfl (by kernel_rfl) (fun j hj => by cases hj) (by kernel_rfl) (by kernel_rfl) (by simp [Region.wanted]) (fun Z hZ => by
            go_simp) hSd ?_
          try simp only [Act.put, List.getElem_toArray]
          refine wpAnyT_takeB (i := 4) (.agg #[.int .i64 e.r.g.n, .int .i64 e.r.g.h0, .int .i64 e.r.g.h1, .int .i64 e.r.g.h2, .int .i64 e.r.g.h3, .int .i64 e.r.g.h4, .int .i64 e.r.f]) rfl (by kernel_rfl) (fun j hj => by cases hj) (by kernel_rfl) (by kernel_rfl) (by simp [Region.wanted]) (fun Z hZ => by
            have x0 := dcell (hZ.2.2.trans HSB3.out) 0
            have x1 := dcell (hZ.2.2.trans HSB3.out) 1
            have x2 := dcell (hZ.2.2.trans HSB3.out) 2
            have x3 := dcell (hZ.2.2.trans HSB3.out) 3
            have x4 := dcell (hZ.2.2.trans HSB3.out) 4
            have x5 := dcell (hZ.2.2.trans HSB3.out) 5
            have x6 := dcell (hZ.2.2.trans HSB3.out) 6
            have xz := lt_of_heap (hZ.2.2.trans HSB3.out)
            go_simp) hSd ?_
          try simp only [Act.put, List.getElem_toArray]
          refine wpAnyT_oneB (i := 5) rfl (by kernel_rfl) (fun KK' hKK' => ?_)
          have hwd := word_any vs1 ws1 HS3.out.s.wok i HS3.out.s.here hlen1 e.r (.slice su vs1.length sc) W3d ((HS3.out.w.own.row (by omega)).ext HEd.out)
          go_wp2_with fail
          refine hwd.mono ?_
          clear hwd
          rintro en W5 ⟨gw, nw, cw, rfl, hgw, hrw, hE5⟩
          have HRW := hide hrw
          have HGW := hide hgw
          have hE35 := HEd.out.trans hE5
          have HE5 := hide hE35
          clear hrw hgw hE5 hE35
          go_wp2_with fail
          have hbg := HS3.out.w.big
          have hbq := HS3.out.bp
          have hpv := HPV.out
          have s5 : W5.heap[z + 1 + 1 + 1 + 1 + 1 + 1]? = W3.heap[z + 1 + 1 + 1 + 1 + 1 + 1]? ∧ W5.heap[bi]? = W3.heap[bi]? ∧ W5.heap[sb]? = W3.heap[sb]? := ⟨HE5.out.b.block _ (lt_of_heap hvb), HE5.out.b.block _ (lt_of_heap hib), HE5.out.b.block _ (lt_of_heap HSB3.out)⟩
          have low6 : ∀ b, b ≠ z + 1 + 1 + 1 → (W5.setCell ⟨z + 1 + 1 + 1, 0, none⟩ (.slice su vs1.length sc)).heap[b]? = W5.heap[b]? := fun b hb => Below.heap_setCell _ _ _ _ hb
          have s6 : (W5.setCell ⟨z + 1 + 1 + 1, 0, none⟩ (.slice su vs1.length sc)).heap[z + 1 + 1 + 1 + 1 + 1 + 1]? = W3.heap[z + 1 + 1 + 1 + 1 + 1 + 1]? ∧ (W5.setCell ⟨z + 1 + 1 + 1, 0, none⟩ (.slice su vs1.length sc)).heap[bi]? = W3.heap[bi]? ∧ (W5.setCell ⟨z + 1 + 1 + 1, 0, none⟩ (.slice su vs1.length sc)).heap[sb]? = W3.heap[sb]? := ⟨(low6 _ (by omega)).trans s5.1, (low6 _ (by omega)).trans s5.2.1, (low6 _ (by omega)).trans s5.2.2⟩
          have b15 := HS3.out.w.r1.ext HE5.out
          have b25 := HS3.out.w.r2.ext HE5.out
          have b26 : Box (W5.setCell ⟨z + 1 + 1 + 1, 0, none⟩ (.slice su vs1.length sc)) _ _ _ := b25.other (by show z + 1 + 1 + 1 + 1 ≠ z + 1 + 1 + 1; omega)
          have B15 : Hid (Box W5 (z + 1 + 1 + 1) 68 (.slice none 0 0)) := b15
          have B26 : Hid (Box (W5.setCell ⟨z + 1 + 1 + 1, 0, none⟩ (.slice su vs1.length sc)) (z + 1 + 1 + 1 + 1) 27 (.slice none 0 0)) := b26
          have S5 := hide s5
          have S6 := hide s6
          clear low6 b15 b25 b26 s5 s6 hvb hib hSd hbg hbq hpv
          refine ⟨rfl, hKK' _ _ (fun _ => S5.out) ?_⟩
          clear hKK' KK'
          try simp only [Act.put, List.getElem_toArray, List.setIfInBounds_toArray]
          have q0 := B15.out.cell
          have qf := B15.out.frozen
          have qz := B15.out.lt
          refine wpAnyT_oneB (i := 6) rfl (by kernel_rfl) (fun KK' hKK' => ?_)
          go_wp2_with fail
          refine ⟨rfl, hKK' _ _ (fun _ => S6.out) ?_⟩
          clear hKK' KK' q0 qf qz
          try simp only [Act.put, List.getElem_toArray, List.setIfInBounds_toArray]
          have q0 := B26.out.cell
          have qf := B26.out.frozen
          have qz := B26.out.lt
          refine wpAnyT_oneB (i := 7) rfl (by kernel_rfl) (fun KK' hKK' => ?_)
          go_wp2_with fail
          refine ⟨rfl, hKK' _ _ (fun _ => ?_) ?_⟩
          · have hbg := HS3.out.w.big
            have hbq := HS3.out.bp
            have hpv := HPV.out
            exact ⟨(Below.heap_setCell _ _ _ _ (by show z + 1 + 1 + 1 + 1 + 1 + 1 ≠ z + 1 + 1 + 1 + 1; omega)).trans S6.out.1, (Below.heap_setCell _ _ _ _ (by show bi ≠ z + 1 + 1 + 1 + 1; omega)).trans S6.out.2.1, (Below.heap_setCell _ _ _ _ (by show sb ≠ z + 1 + 1 + 1 + 1; omega)).trans S6.out.2.2⟩
          clear hKK' KK' q0 qf qz
          refine wpAnyT_done (by kernel_rfl) ?_ _
          gi_wp2_with fail
          have hS3 := HS3.out
          have hbg := hS3.w.big
          have hbq := hS3.bp
          have hpz3 := hS3.pz
          have hE5 := HE5.out
          have hgw3 : W3.heap.size ≤ gw := Nat.le_trans HEd.out.size HGW.out
          have hzw := HZW.out
          have n1 : ¬ O (z + 1 + 1 + 1) := fun h => by have := HOP.out _ h; omega
          have n2 : ¬ O (z + 1 + 1 + 1 + 1) := fun h => by have := HOP.out _ h; omega
          have k6 : KFO W9.heap.size O W5 (W5.setCell ⟨z + 1 + 1 + 1, 0, none⟩ (.slice su vs1.length sc)) := KFO.setCell _ _ _ n1
          have k7 : KFO W9.heap.size O (W5.setCell ⟨z + 1 + 1 + 1, 0, none⟩ (.slice su vs1.length sc)) ((W5.setCell ⟨z + 1 + 1 + 1, 0, none⟩ (.slice su vs1.length sc)).setCell ⟨z + 1 + 1 + 1 + 1, 0, none⟩ (.slice (some ⟨gw, 0, none⟩) nw cw)) := KFO.setCell _ _ _ n2
          have low : ∀ b, b ≠ z + 1 + 1 + 1 → b ≠ z + 1 + 1 + 1 + 1 → ((W5.setCell ⟨z + 1 + 1 + 1, 0, none⟩ (.slice su vs1.length sc)).setCell ⟨z + 1 + 1 + 1 + 1, 0, none⟩ (.slice (some ⟨gw, 0, none⟩) nw cw)).heap[b]? = W5.heap[b]? := fun b h1 h2 => (Below.heap_setCell _ _ _ _ h2).trans (Below.heap_setCell _ _ _ _ h1)
          have ext7 : Ext w ((W5.setCell ⟨z + 1 + 1 + 1, 0, none⟩ (.slice su vs1.length sc)).setCell ⟨z + 1 + 1 + 1 + 1, 0, none⟩ (.slice (some ⟨gw, 0, none⟩) nw cw)) := ((hS3.w.ext.trans hE5).setCell (p := ⟨z + 1 + 1 + 1, 0, none⟩) (by show w.heap.size ≤ z + 1 + 1 + 1; omega) _).setCell (p := ⟨z + 1 + 1 + 1 + 1, 0, none⟩) (by show w.heap.size ≤ z + 1 + 1 + 1 + 1; omega) _
          have b17 : Box ((W5.setCell ⟨z + 1 + 1 + 1, 0, none⟩ (.slice su vs1.length sc)).setCell ⟨z + 1 + 1 + 1 + 1, 0, none⟩ (.slice (some ⟨gw, 0, none⟩) nw cw)) (z + 1 + 1 + 1) 68 (.slice su vs1.length sc) := B15.out.set.other (by show z + 1 + 1 + 1 ≠ z + 1 + 1 + 1 + 1; omega)
          have b27 : Box ((W5.setCell ⟨z + 1 + 1 + 1, 0, none⟩ (.slice su vs1.length sc)).setCell ⟨z + 1 + 1 + 1 + 1, 0, none⟩ (.slice (some ⟨gw, 0, none⟩) nw cw)) (z + 1 + 1 + 1 + 1) 27 (.slice (some ⟨gw, 0, none⟩) nw cw) := B26.out.set
          have own7 : Own Vs.cells 10 ((W5.setCell ⟨z + 1 + 1 + 1, 0, none⟩ (.slice su vs1.length sc)).setCell ⟨z + 1 + 1 + 1 + 1, 0, none⟩ (.slice (some ⟨gw, 0, none⟩) nw cw)) (z + 5) 75 (.slice su vs1.length sc) vs1 := ((hS3.w.own.ext hE5).set_other (a := ⟨z + 1 + 1 + 1, 0, none⟩) (by show z + 1 + 1 + 1 < z + 5; omega) _).set_other (a := ⟨z + 1 + 1 + 1 + 1, 0, none⟩) (by show z + 1 + 1 + 1 + 1 < z + 5; omega) _
          have hty : ∃ cur e fr, W5.heap[gw]? = some (.cells cur e fr) := by
            obtain ⟨p', c', e1, _, _, h3⟩ := HRW.out
            injection e1 with e1 _ _
            obtain ⟨b', o', h4, _, h5⟩ := h3 (by simp)
            rw [← e1] at h4
            injection h4 with h4
            injection h4 with h4 h6
            subst h4
            cases hl : ws1.getD i [] ++ [e.r] with
            | nil => simp at hl
            | cons x xs => exact cells_of_cell (h5 0 x (by rw [hl]; rfl) 0 _ rfl)
          have hlw := low gw (by omega) (by omega)
          obtain ⟨cur, et, fr, hh⟩ := hty
          have hfd := HLS.out.found H1.out H2.out HDD.out
          refine ⟨((HK3.out.trans (KFO.of_ext hE5 HOV3.out)).trans k6).trans k7, rfl, vs1, _, ws1.getD i [] ++ [e.r], gw, nw, cw, ⟨ext7, hS3.m.of_heap (fun b _ hb hm => ?_), HOP.out, ?_, by omega, b17, b27, own7, hS3.n, HRW.out.block hlw (lt_of_heap (hlw.trans hh)), ⟨cur, et, fr, hlw.trans hh⟩, fun ho => by have := HOV3.out gw ho; omega, hlen1, by simp, hfd.1, hfd.2⟩⟩
          · have m1 : b ≠ z + 1 + 1 + 1 := fun h => by
              rw [h, show W3.heap[z + 1 + 1 + 1]? = _ from hS3.w.r1] at hm
              cases hm
            have m2 : b ≠ z + 1 + 1 + 1 + 1 := fun h => by
              rw [h, show W3.heap[z + 1 + 1 + 1 + 1]? = _ from hS3.w.r2] at hm
              cases hm
            exact (low b m1 m2).trans (hE5.b.block b (by omega))
          · have := k6.f.1
            have := k7.f.1
            have := hE5.size
            omega
        | false =>
          by_cases hxy : 0 ≤ e.x ∧ 0 ≤ e.y
          case neg =>
            have HP := hide (HLS.out.pass HDD.out hxy)
            have hS3 := HS3.out
            have HJP : Hid (SrJ d A B w F z (some ⟨ba, oa, none⟩) c (some ⟨bb, ob, none⟩) k bi pb i ds L (j + 1) vs1 ws1 uv1 O W3) := ⟨hS3.w, HP.out, hS3.m, hS3.o, hS3.n, hS3.bp, hS3.pz⟩
            clear hS3 HP
            by_cases hx : 0 ≤ e.x
            · have hy : ¬ 0 ≤ e.y := fun h => hxy ⟨hx, h⟩
              have hd2 : decide (0 ≤ e.y) = false := decide_eq_false hy
              clear hxy
              gi_wp2_with fail
              exact ⟨HK3.out, _, _, _, HJP.out⟩
            · have hd2 : decide (0 ≤ e.x) = false := decide_eq_false hx
              clear hxy
              gi_wp2_with fail
              exact ⟨HK3.out, _, _, _, HJP.out⟩
          case pos =>
          have hx0 : ((e.x.toNat : Nat) : Int) = e.x := Int.toNat_of_nonneg hxy.1
          have hy0 : ((e.y.toNat : Nat) : Int) = e.y := Int.toNat_of_nonneg hxy.2
          have hbz : ∀ W, (zeroValue 4).run Try.prog W = .ok (.bool false) W := fun W => by kernel_rfl
          have hlook := HS3.out.w.km.look pkey_ok HUB.out hbz (e.x, e.y)
          have hsl := seen_look e.x.toNat e.y.toNat vs1
          rw [hx0, hy0] at hsl
          rw [hsl] at hlook
          unfold penc at hlook
          have hd1 : decide (0 ≤ e.x) = true := decide_eq_true hxy.1
          have hd2 : decide (0 ≤ e.y) = true := decide_eq_true hxy.2
          have m0 := HS3.out.w.mb.cell
          have mz := HS3.out.w.mb.lt
          have HXY := hide hxy
          have HX0 := hide hx0
          have HY0 := hide hy0
          clear hbz hsl hxy hx0 hy0
          by_cases hkn : ∃ v ∈ vs1, v.pr = (e.x.toNat, e.y.toNat)
          · have HP := hide (HLS.out.skip HDD.out HXY.out hkn)
            have hS3 := HS3.out
            have HJP : Hid (SrJ d A B w F z (some ⟨ba, oa, none⟩) c (some ⟨bb, ob, none⟩) k bi pb i ds L (j + 1) vs1 ws1 uv1 O W3) := ⟨hS3.w, HP.out, hS3.m, hS3.o, hS3.n, hS3.bp, hS3.pz⟩
            rw [decide_eq_true hkn] at hlook
            clear hS3 HP hkn
            gi_wp2_with fail
            exact ⟨HK3.out, _, _, _, HJP.out⟩
          · have HB4 := HEB.out
            have HP := hide (HLS.out.add H1.out H2.out HDD.out HXY.out hkn HB4.2.1 HB4.2.2.2)
            rw [decide_eq_false hkn] at hlook
            have HKN := hide hkn
            clear hkn HB4
            obtain ⟨ob, ⟨es, cl, rfl⟩, hput, hkm⟩ := HS3.out.w.km.put pkey_ok HUB.out (e.x, e.y) (.bool true)
            have hsp := seen_put vs1 ⟨e.x.toNat, e.y.toNat, i, e.r⟩ HKN.out
            simp only [HX0.out, HY0.out] at hsp
            rw [hsp] at hkm
            unfold penc at hput
            have HKM := hide hkm
            clear hsp hkm
            gi_upto_region 13 with fail
            have hS3 := HS3.out
            have hpv := HPV.out
            have hbg := hS3.w.big
            have hbq := hS3.bp
            obtain ⟨W4, hW4⟩ : ∃ W4, W3.putObj (z + 7) (.map es cl) = W4 := ⟨_, rfl⟩
            have hblk : ∀ b, b ≠ z + 7 → W4.heap[b]? = W3.heap[b]? := fun b hb => by rw [← hW4]; exact World.putObj_heap_other hb
            have hk4 : KFO W9.heap.size O W3 W4 := by
              rw [← hW4]
              exact ⟨⟨by simp, fun b o hb hh _ => (World.putObj_heap_other (by omega)).trans hh⟩, fun b hb => World.putObj_heap_other (by have := HOP.out b hb; omega)⟩
            have hz4 : W4.heap.size = W3.heap.size := by rw [← hW4]; simp
            have hkm4 := HKM.out
            rw [hW4] at hkm4 ⊢
            have own4 : Own Vs.cells 10 W4 (z + 5) 75 uv1 vs1 := hS3.w.own.of_block (fun b hb => hblk b (fun hbz => by
              obtain ⟨cur, fr, hh⟩ := hS3.w.own.typed b hb
              obtain ⟨es', cl', hh', _⟩ := hS3.w.km
              rw [hbz, hh'] at hh
              cases hh))
            have ext4 : Ext w W4 := by rw [← hW4]; exact hS3.w.ext.putObj (by have := HZW.out; omega) _
            have ab4 := (hblk z (by omega)).trans hS3.w.ab
            have bb4 := (hblk (z + 1) (by omega)).trans hS3.w.bb
            have fb4 : Box W4 _ _ _ := (hblk (z + 1 + 1) (by omega)).trans hS3.w.fb
            have r14 : Box W4 _ _ _ := (hblk (z + 1 + 1 + 1) (by omega)).trans hS3.w.r1
            have r24 : Box W4 _ _ _ := (hblk (z + 1 + 1 + 1 + 1) (by omega)).trans hS3.w.r2
            have vb4 : Box W4 _ _ _ := (hblk (z + 1 + 1 + 1 + 1 + 1 + 1) (by omega)).trans hS3.w.vb
            have mb4 : Box W4 _ _ _ := (hblk (z + 7 + 1) (by omega)).trans hS3.w.mb
            have ib4 : Box W4 _ _ _ := (hblk bi (by omega)).trans hS3.w.ib
            have mk4 : Marks z W4 pb ds := hS3.m.of_heap (fun b _ _ hh => hblk b (fun hbz => by
              obtain ⟨es', cl', hh', _⟩ := hS3.w.km
              rw [hbz, hh'] at hh
              cases hh))
            have sb4 := (hblk sb (by omega)).trans HSB3.out
            have hlen1 := hS3.s.few H1.out H2.out
            obtain ⟨su, sc, rfl⟩ := own4.sl
            have hty : ∀ b, (Value.slice su vs1.length sc).ownBlock = some b → z + 5 ≤ b ∧ b ≠ z + 1 + 1 + 1 + 1 + 1 + 1 ∧ b ≠ z + 7 ∧ b ≠ z + 7 + 1 ∧ b ≠ bi ∧ ¬ O b ∧ ∃ cur fr, W4.heap[b]? = some (.cells cur 75 fr) := fun b hb => by
              obtain ⟨cur, fr, hh⟩ := own4.typed b hb
              refine ⟨own4.block_ge b hb, fun h => ?_, fun h => ?_, fun h => ?_, fun h => ?_, hS3.n b hb, cur, fr, hh⟩
              · rw [h, show W4.heap[z + 1 + 1 + 1 + 1 + 1 + 1]? = _ from vb4] at hh
                cases hh
              · obtain ⟨es', cl', hh', _⟩ := hkm4
                rw [h, hh'] at hh
                cases hh
              · rw [h, show W4.heap[z + 7 + 1]? = _ from mb4] at hh
                cases hh
              · rw [h, show W4.heap[bi]? = _ from ib4] at hh
                cases hh
            have HTY := hide hty
            clear hty
            have HW4 := hide (And.intro ext4 (And.intro ab4 (And.intro bb4 (And.intro fb4 (And.intro r14 (And.intro r24 (And.intro mb4 (And.intro hkm4 (And.intro mk4 hk4)))))))))
            have HVB := hide vb4
            have HIB := hide ib4
            have HOW := hide own4
            have HSB4 := hide sb4
            have HZ4 := hide hz4
            have v0 := vb4.cell
            have vf := vb4.frozen
            have vz := vb4.lt
            have i0 := ib4.cell
            have iz := ib4.lt
            clear c0 c1 c2 c3 c4 c5 c6 c7 c8 sz hput hlook m0 mz ext4 ab4 bb4 fb4 r14 r24 mb4 hkm4 mk4 hk4 own4 vb4 ib4 hW4 hblk hz4 hS3 HSB3
            have c0 := dcell sb4 0
            have c1 := dcell sb4 1
            have c2 := dcell sb4 2
            have c3 := dcell sb4 3
            have c4 := dcell sb4 4
            have c5 := dcell sb4 5
            have c6 := dcell sb4 6
            have c7 := dcell sb4 7
            have c8 := dcell sb4 8
            have sz := lt_of_heap sb4
            have hnew : ∀ j u, (Vs.cells ⟨e.x.toNat, e.y.toNat, i, e.r⟩)[j]? = some u → (W4.alloc (.cells #[.int .i64 e.x, .int .i64 e.y, .int .i64 i, .int .i64 e.r.g.n, .int .i64 e.r.g.h0, .int .i64 e.r.g.h1, .int .i64 e.r.g.h2, .int .i64 e.r.g.h3, .int .i64 e.r.g.h4, .int .i64 e.r.f] 75)).cell? ⟨W4.heap.size, j, none⟩ = some u := fun j u h => by
              rw [cell_of_row _ _ _ _ _ _ (heap_alloc_new W4 _)]
              simp only [Vs.cells, HX0.out, HY0.out] at h
              rw [← h, ← List.getElem?_toArray]
            have HNEW := hide hnew
            clear sb4 hnew
            gi_wp2_with (gi_at_builtin; refine wpListIn_append1 rfl (.tmp 72) (.tmp 79) 68 rfl (z + 5) 75 (Vs.v default) 10 80 Try.underlying68 vs_info rfl (by decide) _ vs1 ⟨e.x.toNat, e.y.toNat, i, e.r⟩ W4.heap.size rfl (HOW.out.alloc _) rfl HNEW.out (vs_one _) (by omega) (by decide) (by simp only [World.size_alloc]; omega) ?_; intro v' W6 hown' hg6 hform; have hv6 : Box W6 (z + 1 + 1 + 1 + 1 + 1 + 1) 68 (.slice su vs1.length sc) := (hg6.block _ (by simp only [World.size_alloc]; omega) (fun he => (HTY.out _ he.symm).2.1 rfl)).trans ((Below.heap_alloc _ _ _ vz).trans HVB.out); have v60 := hv6.cell; have v6f := hv6.frozen; have v6z := hv6.lt; have HV6 := hide hv6; have HGR := hide hg6; have HOW6 := hide hown'; clear hv6 hg6 hown'; obtain ⟨g', c', rfl, hgf⟩ := hform; have HGF := hide hgf; clear hgf)
            obtain ⟨ext4, ab4, bb4, fb4, r14, r24, mb4, hkm4, mk4, hk4⟩ := HW4.out
            have hg6 : (W4.alloc (.cells #[.int .i64 e.x, .int .i64 e.y, .int .i64 i, .int .i64 e.r.g.n, .int .i64 e.r.g.h0, .int .i64 e.r.g.h1, .int .i64 e.r.g.h2, .int .i64 e.r.g.h3, .int .i64 e.r.g.h4, .int .i64 e.r.f] 75)).grownBy W6 (Value.slice su vs1.length sc).ownBlock := HGR.out
            have hgf : (Value.slice su vs1.length sc).ownBlock = some g' ∨ g' = (W4.alloc (.cells #[.int .i64 e.x, .int .i64 e.y, .int .i64 i, .int .i64 e.r.g.n, .int .i64 e.r.g.h0, .int .i64 e.r.g.h1, .int .i64 e.r.g.h2, .int .i64 e.r.g.h3, .int .i64 e.r.g.h4, .int .i64 e.r.f] 75)).heap.size := HGF.out
            have hus : (W4.alloc (.cells #[.int .i64 e.x, .int .i64 e.y, .int .i64 i, .int .i64 e.r.g.n, .int .i64 e.r.g.h0, .int .i64 e.r.g.h1, .int .i64 e.r.g.h2, .int .i64 e.r.g.h3, .int .i64 e.r.g.h4, .int .i64 e.r.f] 75)).heap.size = W4.heap.size + 1 := by simp
            have hE5 := (Ext.refl W4).alloc (.cells #[.int .i64 e.x, .int .i64 e.y, .int .i64 i, .int .i64 e.r.g.n, .int .i64 e.r.g.h0, .int .i64 e.r.g.h1, .int .i64 e.r.g.h2, .int .i64 e.r.g.h3, .int .i64 e.r.g.h4, .int .i64 e.r.f] 75)
            have hO4 : ∀ b, O b → b < W4.heap.size := fun b hb => by rw [HZ4.out]; exact HOV3.out b hb
            have hk5 : KFO W9.heap.size O W4 (W4.alloc (.cells #[.int .i64 e.x, .int .i64 e.y, .int .i64 i, .int .i64 e.r.g.n, .int .i64 e.r.g.h0, .int .i64 e.r.g.h1, .int .i64 e.r.g.h2, .int .i64 e.r.g.h3, .int .i64 e.r.g.h4, .int .i64 e.r.f] 75)) := KFO.of_ext hE5 hO4
            have hk6 : KFO W9.heap.size O (W4.alloc (.cells #[.int .i64 e.x, .int .i64 e.y, .int .i64 i, .int .i64 e.r.g.n, .int .i64 e.r.g.h0, .int .i64 e.r.g.h1, .int .i64 e.r.g.h2, .int .i64 e.r.g.h3, .int .i64 e.r.g.h4, .int .i64 e.r.f] 75)) W6 := ⟨KF.grown hg6 (fun b hb => by
              obtain ⟨_, _, _, _, _, _, cur, fr, h2⟩ := HTY.out b hb
              exact .inr ⟨cur, _, fr, (hE5.b.block b (lt_of_heap h2)).trans h2⟩), fun b hb => hg6.block b (by have := hO4 b hb; omega) (fun he => (HTY.out b he.symm).2.2.2.2.2.1 hb)⟩
            generalize W4.alloc (.cells #[.int .i64 e.x, .int .i64 e.y, .int .i64 i, .int .i64 e.r.g.n, .int .i64 e.r.g.h0, .int .i64 e.r.g.h1, .int .i64 e.r.g.h2, .int .i64 e.r.g.h3, .int .i64 e.r.g.h4, .int .i64 e.r.f] 75) = U at hg6 hgf hus hE5 hk5 hk6
            have hnO : ¬ O (z + 1 + 1 + 1 + 1 + 1 + 1) := fun h => by have := HOP.out _ h; omega
            have hk7 : KFO W9.heap.size O W6 (W6.setCell ⟨z + 1 + 1 + 1 + 1 + 1 + 1, 0, none⟩ (.slice (some ⟨g', 0, none⟩) (vs1.length + 1) c')) := KFO.setCell _ _ _ hnO
            have hgz : g' ≠ z + 1 + 1 + 1 + 1 + 1 + 1 := by
              rcases hgf with h | h
              · exact (HTY.out g' h).2.1
              · omega
            have hgO : ¬ O g' := by
              rcases hgf with h | h
              · exact (HTY.out g' h).2.2.2.2.2.1
              · intro ho; have := hO4 g' ho; omega
            have hsz7 : W6.heap.size ≤ (W6.setCell ⟨z + 1 + 1 + 1 + 1 + 1 + 1, 0, none⟩ (.slice (some ⟨g', 0, none⟩) (vs1.length + 1) c')).heap.size := hk7.f.1
            have hsz6 := hk6.f.1
            have own7 : Own Vs.cells 10 (W6.setCell ⟨z + 1 + 1 + 1 + 1 + 1 + 1, 0, none⟩ (.slice (some ⟨g', 0, none⟩) (vs1.length + 1) c')) (z + 5) 75 (.slice (some ⟨g', 0, none⟩) (vs1.length + 1) c') (vs1 ++ [⟨e.x.toNat, e.y.toNat, i, e.r⟩]) :=
              HOW6.out.setNe (a := ⟨z + 1 + 1 + 1 + 1 + 1 + 1, 0, none⟩) (fun b hb => by injection hb with hb; rw [← hb]; exact hgz) _
            have ext7 : Ext w (W6.setCell ⟨z + 1 + 1 + 1 + 1 + 1 + 1, 0, none⟩ (.slice (some ⟨g', 0, none⟩) (vs1.length + 1) c')) :=
              ((ext4.trans hE5).grown hg6 (fun b hb => by have := (HTY.out b hb).1; have := HZW.out; omega)).setCell (p := ⟨z + 1 + 1 + 1 + 1 + 1 + 1, 0, none⟩) (by show w.heap.size ≤ z + 1 + 1 + 1 + 1 + 1 + 1; have := HZW.out; omega) _
            have vb7 : Box (W6.setCell ⟨z + 1 + 1 + 1 + 1 + 1 + 1, 0, none⟩ (.slice (some ⟨g', 0, none⟩) (vs1.length + 1) c')) (z + 1 + 1 + 1 + 1 + 1 + 1) 68 (.slice (some ⟨g', 0, none⟩) (vs1.length + 1) c') := HV6.out.set
            have keep : ∀ b, b < W4.heap.size → b ≠ z + 1 + 1 + 1 + 1 + 1 + 1 → ¬ (Value.slice su vs1.length sc).ownBlock = some b → (W6.setCell ⟨z + 1 + 1 + 1 + 1 + 1 + 1, 0, none⟩ (.slice (some ⟨g', 0, none⟩) (vs1.length + 1) c')).heap[b]? = W4.heap[b]? := fun b h1 h2 h3 =>
              (Below.heap_setCell _ _ _ _ h2).trans ((hg6.block _ (by omega) (fun he => h3 he.symm)).trans (hE5.b.block b h1))
            generalize W6.setCell ⟨z + 1 + 1 + 1 + 1 + 1 + 1, 0, none⟩ (.slice (some ⟨g', 0, none⟩) (vs1.length + 1) c') = W7 at hk7 hsz7 own7 ext7 vb7 keep ⊢
            have lo : ∀ b, b < z + 5 → ¬ (Value.slice su vs1.length sc).ownBlock = some b := fun b hb h => by have := (HTY.out b h).1; omega
            have mz4 := mb4.lt
            have iz4 := HIB.out.lt
            have hpz4 : pb < W4.heap.size := by rw [HZ4.out]; exact HS3.out.pz
            refine ⟨(((HK3.out.trans hk4).trans hk5).trans hk6).trans hk7, _, _, _, ⟨⟨ext7, (keep _ (by omega) (by omega) (lo _ (by omega))).trans ab4, (keep _ (by omega) (by omega) (lo _ (by omega))).trans bb4, (keep _ (by omega) (by omega) (lo _ (by omega))).trans fb4, (keep _ (by omega) (by omega) (lo _ (by omega))).trans r14, (keep _ (by omega) (by omega) (lo _ (by omega))).trans r24, vb7, own7,
              (keep _ mz4 (by omega) (fun h => (HTY.out _ h).2.2.2.1 rfl)).trans mb4, hkm4.of_block (keep _ (by omega) (by omega) (fun h => (HTY.out _ h).2.2.1 rfl)), (keep _ iz4 (by omega) (fun h => (HTY.out _ h).2.2.2.2.1 rfl)).trans HIB.out, hbg⟩, HP.out, mk4.of_heap (fun b _ hb hh => keep b (by omega) (fun h => ?_) (fun h => ?_)), HOP.out, fun b hb => ?_, hbq, by omega⟩⟩
            · rw [h, show W4.heap[z + 1 + 1 + 1 + 1 + 1 + 1]? = _ from HVB.out] at hh
              cases hh
            · obtain ⟨_, _, _, _, _, _, cur, fr, h2⟩ := HTY.out b h
              rw [h2] at hh
              cases hh
            · injection hb with hb
              rw [← hb]
              exact hgO
      · rintro M O V ⟨vs1, ws1, uv1, hS⟩ hMl hM
        have HS := hide hS
        have HMM := hide hM
        have HML : Hid (pb ≤ M) := by show _ ≤ _; omega
        have i0 := hS.w.ib.cell
        have iz := hS.w.ib.lt
        have hlen1 := hS.s.few H1.out H2.out
        have hi1 : i < vs1.length := hS.s.here
        clear hS hM
        go_wp2_with fail
        have hS := HS.out
        have hE := (Ext.refl V).alloc (.cells #[.int .i64 ((i : Int) + 1)] 3)
        have hw := hS.w.mono hE
        have hs := hS.s
        rw [List.drop_length] at hs
        have hbig := hS.w.big
        have hmz := lt_of_heap HMM.out
        have hmp := HML.out
        refine Handed.intro (n - 1) (by have := HN.out; omega) (HJ.out _ _ _ (SrI.intro (bi := V.heap.size) (i := i + 1) (vs := vs1) (ws := ws1) (uv := uv1) rfl (by have := HN.out; omega) (by omega) hlen1 ⟨hw.ext, hw.ab, hw.bb, hw.fb, hw.r1, hw.r2, hw.vb, hw.own, hw.mb, hw.km, Box.new V _ _, by omega⟩ ?_ ?_))
        · by_cases h : i + 1 < vs1.length
          · exact .inl ⟨h, hs.next h⟩
          · exact .inr ⟨by omega, hs.wok.len, hs.full (by omega)⟩
        · exact ⟨M, rfl, by omega, by simp; omega, (hE.b.block _ hmz).trans HMM.out, (hS.m.of_heap (fun b _ hb _ => hE.b.block b (by omega))).top hmp⟩
      · rintro M c O V ⟨rfl, vs, uv, word, g, n, c, hX⟩ hMl hM
        have HX := hide hX
        have HMM := hide hM
        have HML : Hid (pb ≤ M) := by show _ ≤ _; omega
        clear hX hM
        go_wp2_with fail
        have hzb := HX.out.zp
        refine leave_marks _ V.heap.size V (B := z) ⟨M, rfl, by have := HML.out; omega, lt_of_heap HMM.out, HMM.out, HX.out.m.top HML.out⟩ (v := .tuple #[uv, .slice (some ⟨g, 0, none⟩) n c]) (fun W' hc => ?_) fun W' hc => ?_
        · have r1 := (HX.out.b1.chg hc).cell
          have r2 := (HX.out.b2.chg hc).cell
          simp [results, go_sem, r1, r2]
        · refine ⟨vs, uv, _, rfl, HX.out.ext.chg hc (by rw [HZW.out]; exact Nat.le_refl _), (HX.out.own.chg hc).row (by have := HX.out.len; omega), .inl ⟨word, ?_, HX.out.ne, HX.out.mark, HX.out.least⟩⟩
          obtain ⟨cur, e, fr, hh⟩ := HX.out.ty
          have hg := hc.cells _ _ _ _ hh
          exact HX.out.row.block (hg.trans hh.symm) (lt_of_heap hg)
    · have hli : ¬ ((i : Int) < (vs.length : Int)) := by omega
      have HFL : Hid (∃ ws, ws.length = vs.length ∧ Full (act := actP d A B) (0, 0) (zipv vs ws)) := by
        rcases HH.out with ⟨h, _⟩ | ⟨_, h⟩
        · exact absurd h hlt
        · exact ⟨ws, h⟩
      have r1 := HWR.out.r1.cell
      have r2 := HWR.out.r2.cell
      have rf1 := HWR.out.r1.frozen
      have rf2 := HWR.out.r2.frozen
      have rz1 := HWR.out.r1.lt
      have rz2 := HWR.out.r2.lt
      clear hlt
      go_wp2_with fail
      have hW := HWR.out
      have hzw := HZ.out
      have hk1 := hW.r1
      have hk2 := hW.r2
      have b1 : Box ((wr.setCell ⟨z + 1 + 1 + 1, 0, none⟩ (.slice pv vs.length cv)).setCell ⟨z + 1 + 1 + 1 + 1, 0, none⟩ (.slice none 0 0)) (z + 1 + 1 + 1) 68 (.slice pv vs.length cv) := hk1.set.other (by show z + 1 + 1 + 1 ≠ z + 1 + 1 + 1 + 1; omega)
      have b2 : Box ((wr.setCell ⟨z + 1 + 1 + 1, 0, none⟩ (.slice pv vs.length cv)).setCell ⟨z + 1 + 1 + 1 + 1, 0, none⟩ (.slice none 0 0)) (z + 1 + 1 + 1 + 1) 27 (.slice none 0 0) := (hk2.other (by show z + 1 + 1 + 1 + 1 ≠ z + 1 + 1 + 1; omega)).set
      have ow := (hW.own.set_other (a := ⟨z + 1 + 1 + 1, 0, none⟩) (by show z + 1 + 1 + 1 < z + 5; omega) (.slice pv vs.length cv)).set_other (a := ⟨z + 1 + 1 + 1 + 1, 0, none⟩) (by show z + 1 + 1 + 1 + 1 < z + 5; omega) (.slice none 0 0)
      have ex := (hW.ext.setCell (p := ⟨z + 1 + 1 + 1, 0, none⟩) (by show w.heap.size ≤ z + 1 + 1 + 1; omega) (.slice pv vs.length cv)).setCell (p := ⟨z + 1 + 1 + 1 + 1, 0, none⟩) (by show w.heap.size ≤ z + 1 + 1 + 1 + 1; omega) (.slice none 0 0)
      have mk : Marks z ((wr.setCell ⟨z + 1 + 1 + 1, 0, none⟩ (.slice pv vs.length cv)).setCell ⟨z + 1 + 1 + 1 + 1, 0, none⟩ (.slice none 0 0)) wr.heap.size ds := HM.out.of_heap (fun b _ _ hh => by
        have n1 : b ≠ z + 1 + 1 + 1 := fun e => by subst e; unfold Box at hk1; rw [hk1] at hh; cases hh
        have n2 : b ≠ z + 1 + 1 + 1 + 1 := fun e => by subst e; unfold Box at hk2; rw [hk2] at hh; cases hh
        rw [Below.heap_setCell _ _ _ _ n2, Below.heap_setCell _ _ _ _ n1])
      refine leave_marks _ _ _ mk (v := .tuple #[.slice pv vs.length cv, .slice none 0 0]) (fun W' hc => ?_) fun W' hc => ?_
      · have r1 := (b1.chg hc).cell
        have r2 := (b2.chg hc).cell
        simp [results, go_sem, r1, r2]
      · exact ⟨vs, _, _, rfl, ex.chg hc (by omega), (ow.chg hc).row (by omega), .inr ⟨rfl, HFL.out⟩⟩
end Go.Proofs.Ytmkmgimmlohamaa

namespace Go.Proofs.Ytmkmgimmlohamaa
open Go.RowKit
attribute [local go_sem] Oper.semAt_some

theorem enters_lack : ∀ args w, (callFunc 34 args).run Try.prog w = .ok (.enter 34 args) w := fun _ _ => by kernel_rfl
theorem enters_diff : ∀ args w, (callFunc 40 args).run Try.prog w = .ok (.enter 40 args) w := fun _ _ => by kernel_rfl
theorem search_lack (A B : Adv) (u v : Value) (w : World) (hA : AdvRep w u A) (hB : AdvRep w v B) (h1 : achk A = 0) (h2 : achk B = 0) :
    Calls Try.prog 33 #[u, v, .func (.func 34) #[] #[]] w (RetSr dI A B w) := search_any dI _ lacking_any enters_lack A B u v w hA hB h1 h2
theorem search_diff (A B : Adv) (u v : Value) (w : World) (hA : AdvRep w u A) (hB : AdvRep w v B) (h1 : achk A = 0) (h2 : achk B = 0) :
    Calls Try.prog 33 #[u, v, .func (.func 40) #[] #[]] w (RetSr dE A B w) := search_any dE _ differ_any enters_diff A B u v w hA hB h1 h2
/-- What Includes and Equivalent return. -/
def RetIn (d : St → Bool) (A B : Adv) (w : World) (en : Ending) (w' : World) : Prop :=
  ∃ x b, en = .returned (.tuple #[x, .bool b, .int .i64 (bothI A B)]) ∧ Ext w w' ∧
    ((bothI A B ≠ 0 ∧ x = .slice none 0 0 ∧ b = false) ∨
      (bothI A B = 0 ∧ b = false ∧ ∃ word, Row Rd.cells 7 w' x word ∧ word ≠ [] ∧ markA (actP d A B) (0, 0) word ∧ ∀ u, markA (actP d A B) (0, 0) u → Wle word u) ∨
      (bothI A B = 0 ∧ b = true ∧ x = .slice none 0 0 ∧ ∀ u, ¬ markA (actP d A B) (0, 0) u))
end Go.Proofs.Ytmkmgimmlohamaa

namespace Go.Proofs.Ytmkmgimmlohamaa
open Go.RowKit
attribute [local go_sem] Oper.semAt_some

theorem row_ne {α : Type} {enc : α → List Value} {size : Nat} {W : World} {x : Value} {l : List α} (h : Row enc size W x l) (hl : l ≠ []) : ∃ b o c, x = .slice (some ⟨b, o, none⟩) l.length c := by
  obtain ⟨p, c, rfl, _, _, h1⟩ := h
  have : 0 < l.length := List.length_pos_iff.2 hl
  obtain ⟨b, o, rfl, _⟩ := h1 this
  exact ⟨b, o, c, rfl⟩
/-- The two adversaries in boxes of their own. -/
structure TwoBox (A B : Adv) (z : Nat) (p : Option Addr) (c : Nat) (q : Option Addr) (d : Nat) (W : World) : Prop where
  a : W.heap[z]? = some (.cells #[.int .i64 A.n, .slice p A.L c] 24 (0, 0))
  b : W.heap[z + 1]? = some (.cells #[.int .i64 B.n, .slice q B.L d] 24 (0, 0))
theorem TwoBox.ext {A B : Adv} {z : Nat} {p : Option Addr} {c : Nat} {q : Option Addr} {d : Nat} {W W' : World} (h : TwoBox A B z p c q d W) (hE : Ext W W') : TwoBox A B z p c q d W' := ⟨(hE.b.block _ (lt_of_heap h.a)).trans h.a, (hE.b.block _ (lt_of_heap h.b)).trans h.b⟩
theorem TwoBox.new (A B : Adv) (p : Option Addr) (c : Nat) (q : Option Addr) (d : Nat) (w : World) : TwoBox A B w.heap.size p c q d ((w.alloc (.cells #[.int .i64 A.n, .slice p A.L c] 24)).alloc (.cells #[.int .i64 B.n, .slice q B.L d] 24)) := by
  have h1 := heap_alloc_new w (.cells #[.int .i64 A.n, .slice p A.L c] 24)
  have h2 := heap_alloc_new (w.alloc (.cells #[.int .i64 A.n, .slice p A.L c] 24)) (.cells #[.int .i64 B.n, .slice q B.L d] 24)
  rw [World.size_alloc] at h2
  exact ⟨(Below.heap_alloc _ _ _ (lt_of_heap h1)).trans h1, h2⟩
theorem TwoBox.cells {A B : Adv} {z : Nat} {p : Option Addr} {c : Nat} {q : Option Addr} {d : Nat} {W : World} (h : TwoBox A B z p c q d W) : z < W.heap.size ∧ W.cell? ⟨z, 0, none⟩ = some (.int .i64 A.n) ∧ W.cell? ⟨z, 1, none⟩ = some (.slice p A.L c) ∧ z + 1 < W.heap.size ∧ W.cell? ⟨z + 1, 0, none⟩ = some (.int .i64 B.n) ∧ W.cell? ⟨z + 1, 1, none⟩ = some (.slice q B.L d) :=
  ⟨lt_of_heap h.a, dcell h.a 0, dcell h.a 1, lt_of_heap h.b, dcell h.b 0, dcell h.b 1⟩
set_option maxRecDepth 16000 in
set_option maxHeartbeats 1000000 in
theorem pincludes_any (A B : Adv) (u v : Value) (w : World) (hA : AdvRep w u A) (hB : AdvRep w v B) (hmA : movesN A ≤ 4611686018427387904) (hmB : movesN B ≤ 4611686018427387904) :
    Calls Try.prog 12 #[u, v] w (RetIn dI A B w) := by
  have HA := hide hA
  have HB := hide hB
  obtain ⟨p, c, rfl, -⟩ := hA.all_
  obtain ⟨q, d, rfl, -⟩ := hB.all_
  clear hA hB
  have HN := hide (TwoBox.new A B p c q d w)
  have HE1 := hide (((Ext.refl w).alloc (.cells #[.int .i64 A.n, .slice p A.L c] 24)).alloc (.cells #[.int .i64 B.n, .slice q B.L d] 24))
  obtain ⟨W1, hW1⟩ : ∃ W1, (w.alloc (.cells #[.int .i64 A.n, .slice p A.L c] 24)).alloc (.cells #[.int .i64 B.n, .slice q B.L d] 24) = W1 := ⟨_, rfl⟩
  rw [hW1] at HN HE1
  have HW1 := hide hW1
  clear hW1
  go_enter Try.func12, Try.ntmps12
  go_wp2_with fail
  rw [HW1.out]
  refine (both_any A B _ _ W1 (HA.out.ext HE1.out) (HB.out.ext HE1.out) hmA hmB).mono ?_
  rintro e w2 ⟨rfl, hE2⟩
  have HN2 := hide (HN.out.ext hE2)
  have HE2 := hide (HE1.out.trans hE2)
  clear hE2 HN HE1 HW1
  by_cases hb : bothI A B = 0
  case neg =>
    have hd : (bothI A B != 0) = true := by simp [hb]
    have HR : Hid (RetIn dI A B w (.returned (.tuple #[.slice none 0 0, .bool false, .int .i64 (bothI A B)])) w2) := ⟨_, _, rfl, HE2.out, .inl ⟨hb, rfl, rfl⟩⟩
    clear hb
    generalize bothI A B = res at hd HR ⊢
    go_wp2_with fail
    go_ret3 -- r1
    exact HR.out
  case pos =>
  have HZ := hide hb
  rw [hb]
  clear hb
  obtain ⟨z0, a0, a1, z1, b0, b1⟩ := HN2.out.cells
  go_wp2_with fail
  refine (search_lack A B _ _ w2 (HA.out.ext HE2.out) (HB.out.ext HE2.out) (bothI_zero HZ.out).1 (bothI_zero HZ.out).2.1).mono ?_
  rintro e w3 ⟨vs, uv, x, rfl, hE3, -, (⟨word, hrow, hne, hmk, hle⟩ | ⟨rfl, ws, hlen, hfull⟩)⟩
  · have HR : Hid (RetIn dI A B w (.returned (.tuple #[x, .bool false, .int .i64 0])) w3) := ⟨_, _, by rw [HZ.out], HE2.out.trans hE3, .inr (.inl ⟨HZ.out, rfl, word, hrow, hne, hmk, hle⟩)⟩
    obtain ⟨b, o, k, rfl⟩ := row_ne hrow hne
    have hnil : ∀ V, (binOp BinOp.eql 27 (.slice (some ⟨b, o, none⟩) word.length k) (.slice none 0 0)).run Try.prog V = .ok (.bool false) V := fun V => by kernel_rfl
    clear hrow hne hmk hle hE3 z0 a0 a1 z1 b0 b1
    go_wp2_with fail
    go_ret3 -- r2
    exact HR.out
  · have HR : Hid (RetIn dI A B w (.returned (.tuple #[.slice none 0 0, .bool true, .int .i64 0])) w3) := ⟨_, _, by rw [HZ.out], HE2.out.trans hE3, .inr (.inr ⟨HZ.out, rfl, rfl, hfull.none_⟩)⟩
    have hnil : ∀ V, (binOp BinOp.eql 27 (.slice none 0 0) (.slice none 0 0)).run Try.prog V = .ok (.bool true) V := fun V => by kernel_rfl
    clear hlen hfull hE3 z0 a0 a1 z1 b0 b1
    go_wp2_with fail
    go_ret3 -- r3
    exact HR.out
set_option maxRecDepth 16000 in
set_option maxHeartbeats 1000000 in
theorem pequiv_any (A B : Adv) (u v : Value) (w : World) (hA : AdvRep w u A) (hB : AdvRep w v B) (hmA : movesN A ≤ 4611686018427387904) (hmB : movesN B ≤ 4611686018427387904) :
    Calls Try.prog 18 #[u, v] w (RetIn dE A B w) := by
  have HA := hide hA
  have HB := hide hB
  obtain ⟨p, c, rfl, -⟩ := hA.all_
  obtain ⟨q, d, rfl, -⟩ := hB.all_
  clear hA hB
  have HN := hide (TwoBox.new A B p c q d w)
  have HE1 := hide (((Ext.refl w).alloc (.cells #[.int .i64 A.n, .slice p A.L c] 24)).alloc (.cells #[.int .i64 B.n, .slice q B.L d] 24))
  obtain ⟨W1, hW1⟩ : ∃ W1, (w.alloc (.cells #[.int .i64 A.n, .slice p A.L c] 24)).alloc (.cells #[.int .i64 B.n, .slice q B.L d] 24) = W1 := ⟨_, rfl⟩
  rw [hW1] at HN HE1
  have HW1 := hide hW1
  clear hW1
  go_enter Try.func18, Try.ntmps18
  go_wp2_with fail
  rw [HW1.out]
  refine (both_any A B _ _ W1 (HA.out.ext HE1.out) (HB.out.ext HE1.out) hmA hmB).mono ?_
  rintro e w2 ⟨rfl, hE2⟩
  have HN2 := hide (HN.out.ext hE2)
  have HE2 := hide (HE1.out.trans hE2)
  clear hE2 HN HE1 HW1
  by_cases hb : bothI A B = 0
  case neg =>
    have hd : (bothI A B != 0) = true := by simp [hb]
    have HR : Hid (RetIn dE A B w (.returned (.tuple #[.slice none 0 0, .bool false, .int .i64 (bothI A B)])) w2) := ⟨_, _, rfl, HE2.out, .inl ⟨hb, rfl, rfl⟩⟩
    clear hb
    generalize bothI A B = res at hd HR ⊢
    go_wp2_with fail
    go_ret3 -- r4
    exact HR.out
  case pos =>
  have HZ := hide hb
  rw [hb]
  clear hb
  obtain ⟨z0, a0, a1, z1, b0, b1⟩ := HN2.out.cells
  go_wp2_with fail
  refine (search_diff A B _ _ w2 (HA.out.ext HE2.out) (HB.out.ext HE2.out) (bothI_zero HZ.out).1 (bothI_zero HZ.out).2.1).mono ?_
  rintro e w3 ⟨vs, uv, x, rfl, hE3, -, (⟨word, hrow, hne, hmk, hle⟩ | ⟨rfl, ws, hlen, hfull⟩)⟩
  · have HR : Hid (RetIn dE A B w (.returned (.tuple #[x, .bool false, .int .i64 0])) w3) := ⟨_, _, by rw [HZ.out], HE2.out.trans hE3, .inr (.inl ⟨HZ.out, rfl, word, hrow, hne, hmk, hle⟩)⟩
    obtain ⟨b, o, k, rfl⟩ := row_ne hrow hne
    have hnil : ∀ V, (binOp BinOp.eql 27 (.slice (some ⟨b, o, none⟩) word.length k) (.slice none 0 0)).run Try.prog V = .ok (.bool false) V := fun V => by kernel_rfl
    clear hrow hne hmk hle hE3 z0 a0 a1 z1 b0 b1
    go_wp2_with fail
    go_ret3 -- r5
    exact HR.out
  · have HR : Hid (RetIn dE A B w (.returned (.tuple #[.slice none 0 0, .bool true, .int .i64 0])) w3) := ⟨_, _, by rw [HZ.out], HE2.out.trans hE3, .inr (.inr ⟨HZ.out, rfl, rfl, hfull.none_⟩)⟩
    have hnil : ∀ V, (binOp BinOp.eql 27 (.slice none 0 0) (.slice none 0 0)).run Try.prog V = .ok (.bool true) V := fun V => by kernel_rfl
    clear hlen hfull hE3 z0 a0 a1 z1 b0 b1
    go_wp2_with fail
    go_ret3 -- r6
    exact HR.out
end Go.Proofs.Ytmkmgimmlohamaa
