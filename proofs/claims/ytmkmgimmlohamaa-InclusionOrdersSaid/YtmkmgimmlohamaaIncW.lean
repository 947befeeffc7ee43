/-
  The word that leads to a visit (inclusion.word).
  Conditions: as each theorem states.
-/
import Derived.Test.YtmkmgimmlohamaaIncP
import Derived.Test.YtmkmgimmlohamaaRevI
namespace Go.Proofs.Ytmkmgimmlohamaa
open Go.RowKit
attribute [local go_sem] Oper.semAt_some

/-- A visit: a pair of states, the visit from which it was found, the round that leads there. -/
structure Vs where
  p : Nat
  q : Nat
  fr : Nat
  r : Rd
deriving Inhabited
abbrev Vs.cells (e : Vs) : List Value := [.int .i64 e.p, .int .i64 e.q, .int .i64 e.fr, .int .i64 e.r.g.n, .int .i64 e.r.g.h0, .int .i64 e.r.g.h1, .int .i64 e.r.g.h2, .int .i64 e.r.g.h3, .int .i64 e.r.g.h4, .int .i64 e.r.f]
abbrev Vs.v (e : Vs) : Value := .agg #[.int .i64 e.p, .int .i64 e.q, .int .i64 e.fr, .int .i64 e.r.g.n, .int .i64 e.r.g.h0, .int .i64 e.r.g.h1, .int .i64 e.r.g.h2, .int .i64 e.r.g.h3, .int .i64 e.r.g.h4, .int .i64 e.r.f]
theorem vs_one (x : Vs) : ∀ u ∈ Vs.cells x, u.oneCell' = true := by intro u hu; simp only [List.mem_cons, List.not_mem_nil, or_false] at hu; rcases hu with rfl | rfl | rfl | rfl | rfl | rfl | rfl | rfl | rfl | rfl <;> rfl
/-- The visits and their words. -/
structure WOk (vs : List Vs) (ws : List (List Rd)) : Prop where
  len : ws.length = vs.length
  zero : ws.getD 0 [] = []
  up : ∀ i, 0 < i → i < vs.length → (vs.getD i default).fr < i ∧ ws.getD i [] = ws.getD (vs.getD i default).fr [] ++ [(vs.getD i default).r]
theorem Row.vs_all {w : World} {v : Value} {vs : List Vs} (h : Row Vs.cells 10 w v vs) : ∃ (p : Option Addr) (c : Nat), v = .slice p vs.length c ∧ vs.length ≤ c ∧ c ≤ 9223372036854775807 ∧
    (0 < vs.length → ∃ b o, p = some ⟨b, o, none⟩ ∧ b < w.heap.size ∧ ∀ i, i < vs.length → ∀ j u, (Vs.cells (vs.getD i default))[j]? = some u → w.cell? ⟨b, o + i * 10 + j, none⟩ = some u) := by
  obtain ⟨p, c, hv, h2, h3, h4⟩ := h
  refine ⟨p, c, hv, h2, h3.1, fun hl => ?_⟩
  obtain ⟨b, o, hp, hb, hc⟩ := h4 hl
  refine ⟨b, o, hp, hb, fun i hi j u hu => hc i _ ?_ j u hu⟩
  simp [List.getD_eq_getElem?_getD, List.getElem?_eq_getElem hi]
theorem cells_of_cell {W : World} {b j : Nat} {u : Value} (h : W.cell? ⟨b, j, none⟩ = some u) : ∃ cur e fr, W.heap[b]? = some (.cells cur e fr) := by
  unfold World.cell? at h
  cases hh : W.heap[b]? with
  | none => rw [hh] at h; simp at h
  | some o =>
    rw [hh] at h
    cases o with
    | cells cur e fr => exact ⟨cur, e, fr, rfl⟩
    | _ => simp at h
theorem Row.block {α : Type} {enc : α → List Value} {size : Nat} {W W' : World} {g o n c : Nat} {l : List α} (h : Row enc size W (.slice (some ⟨g, o, none⟩) n c) l) (hb : W'.heap[g]? = W.heap[g]?) (hg : g < W'.heap.size) : Row enc size W' (.slice (some ⟨g, o, none⟩) n c) l := by
  obtain ⟨p, c', h1, h2, h3, h4⟩ := h
  injection h1 with e1 e2 e3
  subst e1 e2 e3
  refine ⟨_, _, rfl, h2, h3, fun hl => ?_⟩
  obtain ⟨b, o', h5, h6, h7⟩ := h4 hl
  injection h5 with h5
  injection h5 with e4 e5
  subst e4 e5
  exact ⟨_, _, rfl, hg, fun i x hx j u hu => (World.cell?_of_block hb).trans (h7 i x hx j u hu)⟩
theorem holds_own {w : World} {base g n c : Nat} {e : TypeId} {l : List Rd} (h : Own Rd.cells 7 w base e (.slice (some ⟨g, 0, none⟩) n c) l) : Go.Sort.HoldsK Rd.cells 7 w g 0 l.toArray := by
  intro j hj
  have hj : j < l.length * 7 := by simpa using hj
  obtain ⟨_, hl, h1 | ⟨g', cap, cur, h1, h2, h3, h4, h5, h6, h7⟩⟩ := h
  · exact absurd h1.1 (by intro k; cases k)
  injection h1 with h8 h9 h10
  injection h8 with h8
  injection h8 with h8
  subst h8
  refine ⟨?_, frozen_of h3⟩
  rw [Nat.zero_add, cell_of_row _ _ _ _ _ _ h3, Go.Sort.get_flatK Rd.cells 7 _ j (by simpa using hj)]
  have hi : j / 7 < l.length := by omega
  have e1 : l.toArray[j / 7]! = l[j / 7] := by rw [getElem!_pos l.toArray _ (by simpa using hi), List.getElem_toArray]
  have e2 : (l.flatMap Rd.cells)[j / 7 * 7 + j % 7]? = (Rd.cells l[j / 7])[j % 7]? := flat_get (enc := Rd.cells) (size := 7) (fun _ => rfl) l (j / 7) (j % 7) l[j / 7] (List.getElem?_eq_getElem hi) (by omega)
  rw [show j / 7 * 7 + j % 7 = j by omega, ← h7, List.getElem?_take, if_pos (by omega)] at e2
  rw [e1, ← Array.getElem?_toList, e2, getElem!_def]
  have : j % 7 < (Rd.cells l[j / 7]).length := by show j % 7 < 7; omega
  rw [List.getElem?_eq_getElem this]
  rfl
theorem own_rd1 (w : World) (r : Rd) : Own Rd.cells 7 (w.alloc (robj r)) w.heap.size 43 (.slice (some ⟨w.heap.size, 0, none⟩) 1 1) [r] :=
  ⟨fun _ => rfl, rfl, .inr ⟨w.heap.size, 1, r.cells.toArray, rfl, Nat.le_refl _, heap_alloc_new w _, Nat.le_refl _, by unfold maxLen; omega, rfl, rfl⟩⟩
set_option maxRecDepth 16000 in
set_option maxHeartbeats 4000000 in
theorem word_any (vs : List Vs) (ws : List (List Rd)) (hW : WOk vs ws) (i : Nat) (hi : i < vs.length) (hl : vs.length ≤ 65536) (r : Rd) (u : Value) (w : World) (hu : Row Vs.cells 10 w u vs) :
    Calls Try.prog 54 #[u, .int .i64 i, r.v] w fun e w' => ∃ g n c, e = .returned (.slice (some ⟨g, 0, none⟩) n c) ∧ w.heap.size ≤ g ∧ Row Rd.cells 7 w' (.slice (some ⟨g, 0, none⟩) n c) (ws.getD i [] ++ [r]) ∧ Ext w w' := by
  have HW := hide hW
  obtain ⟨p, c, rfl, hc1, hc2, hat⟩ := hu.vs_all
  obtain ⟨b, o, rfl, hb, hat⟩ := hat (by omega)
  have HA := hide hat
  clear hu hat hW
  go_enter Try.func54, Try.ntmps54
  go_wp2_with fail
  have HO : Hid (Own Rd.cells 7 ((w.alloc (robj r)).alloc (robj r)) w.heap.size 43 (.slice (some ⟨w.heap.size + 1, 0, none⟩) 1 1) [r]) := by
    have := (own_rd1 (w.alloc (robj r)) r).mono (base' := w.heap.size) (by simp)
    rw [World.size_alloc] at this
    exact this
  have HE := hide (((Ext.refl w).alloc (robj r)).alloc (robj r))
  change Code.wp _ _ _ _ ((w.alloc (robj r)).alloc (robj r))
  generalize (w.alloc (robj r)).alloc (robj r) = W0 at HO HE ⊢
  go_loopw [1, 7] (fun y x V => ∃ (k : Nat) (L : List Rd), k < vs.length ∧ y = .int .i64 k ∧ L.length + k ≤ i + 1 ∧ 1 ≤ L.length ∧ Hid (ws.getD i [] ++ [r] = ws.getD k [] ++ L.reverse) ∧ Hid (Own Rd.cells 7 V w.heap.size 43 x L) ∧ Hid (Ext w V)) (fun y _ _ => (intOf y).toNat)
  case atStart => exact ⟨i, [r], hi, rfl, by simp; omega, by simp, by show _ = _; rfl, HO, HE⟩
  case round =>
    clear HO HE
    obtain ⟨k, L, hk, rfl, hL, hL1, HQ, HO, HE⟩ := hrel
    rcases HO.out.form with ⟨_, h0⟩ | ⟨g, cL, rfl, hg, hgz, hcL, hcm⟩
    · rw [h0] at hL1; exact absurd hL1 (by decide)
    by_cases hk0 : k = 0
    · subst hk0
      have HREV := hide (rvs_any w g cL L wr (by omega) hg hgz HE.out (holds_own HO.out))
      go_wp2_with fail
      refine HREV.out.mono ?_
      rintro e w2 ⟨rfl, hE2, hrow, -⟩
      have HE2 := hide hE2
      have HR : Hid (Row Rd.cells 7 w2 (.slice (some ⟨g, 0, none⟩) L.length cL) (ws.getD i [] ++ [r])) := by
        show Row _ _ _ _ _
        rw [HQ.out, HW.out.zero, List.nil_append]
        obtain ⟨p', c', e', h1, h2, h3⟩ := hrow
        injection e' with e1 e2 e3
        subst e1
        rw [List.length_reverse] at h1 h2 h3
        exact ⟨_, _, by rw [List.length_reverse], by rw [List.length_reverse]; exact hcL, ⟨hcm, by rw [List.length_reverse]; exact h2.2⟩, fun _ => h3 (by omega)⟩
      clear hE2 hrow HREV
      go_wp2_with fail
      go_ret
      exact ⟨_, _, _, rfl, hg, HR.out, HE2.out⟩
    · obtain ⟨h1, h2⟩ := HW.out.up k (by omega) hk
      have HN : Hid (ws.getD i [] ++ [r] = ws.getD (vs.getD k default).fr [] ++ (L ++ [(vs.getD k default).r]).reverse) := by
        show _ = _
        rw [HQ.out, h2, List.reverse_append, List.append_assoc]; rfl
      have hat := HA.out k hk
      generalize vs.getD k default = e at h1 HN hat
      have hk1 : (0 : Int) < (k : Int) := by omega
      have hk2 : (k : Int) < (vs.length : Int) := by omega
      have HAT := hide (fun (V : World) (hV : Ext w V) j u h => (hV.cell (p := ⟨b, o + k * 10 + j, none⟩) hb).trans (hat j u h))
      have q2 := HAT.out _ HE.out 2 _ rfl
      have q3 := HAT.out _ HE.out 3 _ rfl
      have q4 := HAT.out _ HE.out 4 _ rfl
      have q5 := HAT.out _ HE.out 5 _ rfl
      have q6 := HAT.out _ HE.out 6 _ rfl
      have q7 := HAT.out _ HE.out 7 _ rfl
      have q8 := HAT.out _ HE.out 8 _ rfl
      have q9 := HAT.out _ HE.out 9 _ rfl
      have H1 := hide h1
      have HHK := hide hk0
      clear hat h1 h2 hk0
      go_upto_region 3 with (at_builtin; refine wpList_append1 rfl (.tmp 17) (.tmp 23) 27 rfl w.heap.size 43 (Rd.v default) 7 56 Try.underlying27 rd_info rfl (by decide) _ L e.r wr.heap.size rfl (HO.out.alloc _) rfl (rd_new_cells wr e.r) (rd_ones e.r) (by omega) (by decide) (by simp only [World.size_alloc]; have := HE.out.size; omega) ?_; intro v' W6 hown' hg6 hform)
      have hge := HO.out.block_ge
      have HE6 : Hid (Ext w W6) := (HE.out.alloc _).grown hg6 (fun k hk => by have := hge k hk; omega)
      have HFIN := hide hown'
      obtain ⟨g', c', rfl, -⟩ := hform
      have q2 := HAT.out _ HE6.out 2 _ rfl
      have hbz : b < W6.heap.size := by have := HE6.out.size; omega
      clear hge hown' hg6 q3 q4 q5 q6 q7 q8 q9
      go_wp2_with fail
      go_roundw
      case rel => exact ⟨e.fr, L ++ [e.r], by have := H1.out; omega, rfl, by have := H1.out; rw [List.length_append]; simp; omega, by rw [List.length_append]; simp, HN, HFIN, HE6⟩
      case measure => have := H1.out; simp [intOf]; omega
end Go.Proofs.Ytmkmgimmlohamaa
