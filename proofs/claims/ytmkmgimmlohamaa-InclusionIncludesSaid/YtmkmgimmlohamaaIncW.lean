/-
  The small functions of layer 20: lacking, Equivalent's closure, both.
  Conditions: as each theorem states.
-/
import Derived.Test.YtmkmgimmlohamaaIncP
import Derived.Test.YtmkmgimmlohamaaCheck
import Derived.Shelf.SlicesQ.Reverse
namespace Go.Proofs.Ytmkmgimmlohamaa
open Go.RowKit

abbrev robj (r : Rd) : Obj := .cells #[.int .i64 r.g.n, .int .i64 r.g.h0, .int .i64 r.g.h1, .int .i64 r.g.h2, .int .i64 r.g.h3, .int .i64 r.g.h4, .int .i64 r.f] 43
theorem rd_info : (Try.prog.info? 43).map (fun i => (i.zero, i.size, i.bytes)) = some (some (Rd.v default), 7, 56) := by kernel_rfl
theorem rd_ones (x : Rd) : ∀ u ∈ Rd.cells x, u.oneCell' = true := by intro u hu; simp only [List.mem_cons, List.not_mem_nil, or_false] at hu; rcases hu with rfl | rfl | rfl | rfl | rfl | rfl | rfl <;> rfl
theorem rd_new_cells (w : World) (r : Rd) : ∀ j u, (Rd.cells r)[j]? = some u → (w.alloc (robj r)).cell? ⟨w.heap.size, j, none⟩ = some u := fun j u h => by
  rw [cell_of_row _ _ _ _ _ _ (heap_alloc_new w (robj r))]
  rw [← h, ← List.getElem?_toArray]
def revRen : Go.Shelf.Ren := ⟨fun | 35 => 71 | n => n, fun | 0 => 0 | 3 => 3 | 4 => 4 | 22 => 27 | 23 => 43 | n => n, fun | n => n⟩
theorem revLays : Go.Proofs.SlLaysE0.n35 Try.prog revRen := {
  mixed := by kernel_rfl
  f35 := ⟨"slices.Reverse[[]roundtable/api.Round,roundtable/api.Round]", by kernel_rfl, Try.func71.trans (congrArg some (by kernel_rfl))⟩
  t0 := Try.underlying0
  a0 := Try.isAgg0
  z0 := Try.sizeOf0
  v0 := Try.zeroValue0
  t3 := Try.underlying3
  a3 := Try.isAgg3
  z3 := Try.sizeOf3
  v3 := Try.zeroValue3
  t4 := Try.underlying4
  a4 := Try.isAgg4
  z4 := Try.sizeOf4
  v4 := Try.zeroValue4
  t22 := Try.underlying27
  a22 := Try.isAgg27
  z22 := Try.sizeOf27
  v22 := Try.zeroValue27 }
theorem add_lit2 (g m k : Nat) : (⟨g, m, none⟩ : Addr).add k = ⟨g, m + k, none⟩ := by unfold Addr.add; split <;> simp_all
open Go.Sort in
theorem row_of_holds {w : World} {b : Nat} {l : List Rd} (h : HoldsK Rd.cells 7 w b 0 l.toArray) (hl : l.length ≤ 1000000) (hb : b < w.heap.size) : Row Rd.cells 7 w (.slice (some ⟨b, 0, none⟩) l.length l.length) l := by
  refine ⟨_, _, rfl, Nat.le_refl _, by constructor <;> omega, fun _ => ⟨b, 0, rfl, hb, fun i x hx j u hu => ?_⟩⟩
  have hi : i < l.length := by
    rcases Nat.lt_or_ge i l.length with h | h
    · exact h
    · rw [List.getElem?_eq_none h] at hx; cases hx
  have h1 := HoldsK.cells h (fun _ => rfl) (i := i) (by simpa using hi) j u (by
    have e : l.toArray[i]! = x := by rw [getElem!_pos l.toArray i (by simpa using hi)]; rw [List.getElem_toArray]; exact (List.getElem?_eq_some_iff.1 hx).2
    rw [e]; exact hu)
  rw [add_lit2] at h1
  rw [Nat.zero_add] at h1 ⊢
  exact h1
open Go.Sort in
theorem ext_putRow {B w : World} (h : Ext B w) {b : Nat} (hb : B.heap.size ≤ b) (n : Nat) (d : Array Rd) : Ext B (putRowK Rd.cells 7 (Go.Sort.ahead w n) b 0 d) := by
  refine ⟨⟨h.b.os, h.b.tape, h.b.output, ?_, fun k hk => ?_⟩⟩
  · have := h.b.size
    simp [putRowK, putRow, mapBlock, Go.Sort.ahead]
    exact this
  · rw [← h.b.block k hk]
    simp only [putRowK, putRow, mapBlock, Go.Sort.ahead, Array.getElem?_modify]
    rw [if_neg (by omega)]
open Go.Sort in
theorem rvs_any (B : World) (b cap : Nat) (l : List Rd) (w : World) (hl : l.length ≤ 1000000) (hb : B.heap.size ≤ b) (hw : b < w.heap.size) (hE : Ext B w) (hH : HoldsK Rd.cells 7 w b 0 l.toArray) :
    Calls Try.prog 71 #[.slice (some ⟨b, 0, none⟩) l.length cap] w fun e w' => e = .returned (.tuple #[]) ∧ Ext B w' ∧ Row Rd.cells 7 w' (.slice (some ⟨b, 0, none⟩) l.length l.length) l.reverse ∧ ∀ k, k ≠ b → w'.heap[k]? = w.heap[k]? := by
  have h := AnyQ.slices_Reverse revLays 7 Try.isAgg43 Try.sizeOf43 Rd.cells (fun _ => rfl) rd_ones b 0 cap l.toArray w hH (by simp; omega)
  rw [List.size_toArray] at h
  refine Calls.mono (f := 71) h ?_
  rintro e w' ⟨rfl, n, rfl⟩
  refine ⟨rfl, ext_putRow hE hb n _, ?_, fun k hk => ?_⟩
  · have h2 := holdsK_putRowK Rd.cells 7 _ b 0 l.toArray l.toArray.reverse (holdsK_ahead Rd.cells 7 w n b 0 _ hH) (by simp)
    rw [show l.toArray.reverse = l.reverse.toArray by simp] at h2
    have h3 := row_of_holds h2 (by simpa using hl) (by simp [putRowK, putRow, mapBlock, Go.Sort.ahead]; exact hw)
    simpa using h3
  · simp only [putRowK, putRow, mapBlock, Go.Sort.ahead, Array.getElem?_modify]
    rw [if_neg (by omega)]
end Go.Proofs.Ytmkmgimmlohamaa

namespace Go.Proofs.Ytmkmgimmlohamaa
open Go.RowKit
attribute [local go_sem] Oper.semAt_some

/-- A visit: a pair of states, the visit from which it was found, the round that leads there. -/
structure Vs where
  p : Nat
  q : Nat
  fr : Nat
  r : Rd
deriving Inhabited
abbrev Vs.cells (e : Vs) : List Value := [.int .i64 e.p, .int .i64 e.q, .int .i64 e.fr, .int .i64 e.r.g.n, .int .i64 e.r.g.h0, .int .i64 e.r.g.h1, .int .i64 e.r.g.h2, .int .i64 e.r.g.h3, .int .i64 e.r.g.h4, .int .i64 e.r.f]
abbrev Vs.v (e : Vs) : Value := .agg #[.int .i64 e.p, .int .i64 e.q, .int .i64 e.fr, .int .i64 e.r.g.n, .int .i64 e.r.g.h0, .int .i64 e.r.g.h1, .int .i64 e.r.g.h2, .int .i64 e.r.g.h3, .int .i64 e.r.g.h4, .int .i64 e.r.f]
theorem vs_one (x : Vs) : ∀ u ∈ Vs.cells x, u.oneCell' = true := by intro u hu; simp only [List.mem_cons, List.not_mem_nil, or_false] at hu; rcases hu with rfl | rfl | rfl | rfl | rfl | rfl | rfl | rfl | rfl | rfl <;> rfl
/-- The visits and their words. -/
structure WOk (vs : List Vs) (ws : List (List Rd)) : Prop where
  len : ws.length = vs.length
  zero : ws.getD 0 [] = []
  up : ∀ i, 0 < i → i < vs.length → (vs.getD i default).fr < i ∧ ws.getD i [] = ws.getD (vs.getD i default).fr [] ++ [(vs.getD i default).r]
theorem Row.vs_all {w : World} {v : Value} {vs : List Vs} (h : Row Vs.cells 10 w v vs) : ∃ (p : Option Addr) (c : Nat), v = .slice p vs.length c ∧ vs.length ≤ c ∧ c ≤ 9223372036854775807 ∧
    (0 < vs.length → ∃ b o, p = some ⟨b, o, none⟩ ∧ b < w.heap.size ∧ ∀ i, i < vs.length → ∀ j u, (Vs.cells (vs.getD i default))[j]? = some u → w.cell? ⟨b, o + i * 10 + j, none⟩ = some u) := by
  obtain ⟨p, c, hv, h2, h3, h4⟩ := h
  refine ⟨p, c, hv, h2, h3.1, fun hl => ?_⟩
  obtain ⟨b, o, hp, hb, hc⟩ := h4 hl
  refine ⟨b, o, hp, hb, fun i hi j u hu => hc i _ ?_ j u hu⟩
  simp [List.getD_eq_getElem?_getD, List.getElem?_eq_getElem hi]
theorem cells_of_cell {W : World} {b j : Nat} {u : Value} (h : W.cell? ⟨b, j, none⟩ = some u) : ∃ cur e fr, W.heap[b]? = some (.cells cur e fr) := by
  unfold World.cell? at h
  cases hh : W.heap[b]? with
  | none => rw [hh] at h; simp at h
  | some o =>
    rw [hh] at h
    cases o with
    | cells cur e fr => exact ⟨cur, e, fr, rfl⟩
    | _ => simp at h
theorem Row.block {α : Type} {enc : α → List Value} {size : Nat} {W W' : World} {g o n c : Nat} {l : List α} (h : Row enc size W (.slice (some ⟨g, o, none⟩) n c) l) (hb : W'.heap[g]? = W.heap[g]?) (hg : g < W'.heap.size) : Row enc size W' (.slice (some ⟨g, o, none⟩) n c) l := by
  obtain ⟨p, c', h1, h2, h3, h4⟩ := h
  injection h1 with e1 e2 e3
  subst e1 e2 e3
  refine ⟨_, _, rfl, h2, h3, fun hl => ?_⟩
  obtain ⟨b, o', h5, h6, h7⟩ := h4 hl
  injection h5 with h5
  injection h5 with e4 e5
  subst e4 e5
  exact ⟨_, _, rfl, hg, fun i x hx j u hu => (World.cell?_of_block hb).trans (h7 i x hx j u hu)⟩
theorem holds_own {w : World} {base g n c : Nat} {e : TypeId} {l : List Rd} (h : Own Rd.cells 7 w base e (.slice (some ⟨g, 0, none⟩) n c) l) : Go.Sort.HoldsK Rd.cells 7 w g 0 l.toArray := by
  intro j hj
  have hj : j < l.length * 7 := by simpa using hj
  obtain ⟨_, hl, h1 | ⟨g', cap, cur, h1, h2, h3, h4, h5, h6, h7⟩⟩ := h
  · exact absurd h1.1 (by intro k; cases k)
  injection h1 with h8 h9 h10
  injection h8 with h8
  injection h8 with h8
  subst h8
  refine ⟨?_, frozen_of h3⟩
  rw [Nat.zero_add, cell_of_row _ _ _ _ _ _ h3, Go.Sort.get_flatK Rd.cells 7 _ j (by simpa using hj)]
  have hi : j / 7 < l.length := by omega
  have e1 : l.toArray[j / 7]! = l[j / 7] := by rw [getElem!_pos l.toArray _ (by simpa using hi), List.getElem_toArray]
  have e2 : (l.flatMap Rd.cells)[j / 7 * 7 + j % 7]? = (Rd.cells l[j / 7])[j % 7]? := flat_get (enc := Rd.cells) (size := 7) (fun _ => rfl) l (j / 7) (j % 7) l[j / 7] (List.getElem?_eq_getElem hi) (by omega)
  rw [show j / 7 * 7 + j % 7 = j by omega, ← h7, List.getElem?_take, if_pos (by omega)] at e2
  rw [e1, ← Array.getElem?_toList, e2, getElem!_def]
  have : j % 7 < (Rd.cells l[j / 7]).length := by show j % 7 < 7; omega
  rw [List.getElem?_eq_getElem this]
  rfl
theorem own_rd1 (w : World) (r : Rd) : Own Rd.cells 7 (w.alloc (robj r)) w.heap.size 43 (.slice (some ⟨w.heap.size, 0, none⟩) 1 1) [r] :=
  ⟨fun _ => rfl, rfl, .inr ⟨w.heap.size, 1, r.cells.toArray, rfl, Nat.le_refl _, heap_alloc_new w _, Nat.le_refl _, by unfold maxLen; omega, rfl, rfl⟩⟩
set_option maxRecDepth 16000 in
set_option maxHeartbeats 4000000 in
theorem word_any (vs : List Vs) (ws : List (List Rd)) (hW : WOk vs ws) (i : Nat) (hi : i < vs.length) (hl : vs.length ≤ 65536) (r : Rd) (u : Value) (w : World) (hu : Row Vs.cells 10 w u vs) :
    Calls Try.prog 54 #[u, .int .i64 i, r.v] w fun e w' => ∃ g n c, e = .returned (.slice (some ⟨g, 0, none⟩) n c) ∧ w.heap.size ≤ g ∧ Row Rd.cells 7 w' (.slice (some ⟨g, 0, none⟩) n c) (ws.getD i [] ++ [r]) ∧ Ext w w' := by
  have HW := hide hW
  obtain ⟨p, c, rfl, hc1, hc2, hat⟩ := hu.vs_all
  obtain ⟨b, o, rfl, hb, hat⟩ := hat (by omega)
  have HA := hide hat
  clear hu hat hW
  go_enter Try.func54, Try.ntmps54
  go_wp2_with fail
  have HO : Hid (Own Rd.cells 7 ((w.alloc (robj r)).alloc (robj r)) w.heap.size 43 (.slice (some ⟨w.heap.size + 1, 0, none⟩) 1 1) [r]) := by
    have := (own_rd1 (w.alloc (robj r)) r).mono (base' := w.heap.size) (by simp)
    rw [World.size_alloc] at this
    exact this
  have HE := hide (((Ext.refl w).alloc (robj r)).alloc (robj r))
  change Code.wp _ _ _ _ ((w.alloc (robj r)).alloc (robj r))
  generalize (w.alloc (robj r)).alloc (robj r) = W0 at HO HE ⊢
  go_loopw [1, 7] (fun y x V => ∃ (k : Nat) (L : List Rd), k < vs.length ∧ y = .int .i64 k ∧ L.length + k ≤ i + 1 ∧ 1 ≤ L.length ∧ Hid (ws.getD i [] ++ [r] = ws.getD k [] ++ L.reverse) ∧ Hid (Own Rd.cells 7 V w.heap.size 43 x L) ∧ Hid (Ext w V)) (fun y _ _ => (intOf y).toNat)
  case atStart => exact ⟨i, [r], hi, rfl, by simp; omega, by simp, by show _ = _; rfl, HO, HE⟩
  case round =>
    clear HO HE
    obtain ⟨k, L, hk, rfl, hL, hL1, HQ, HO, HE⟩ := hrel
    rcases HO.out.form with ⟨_, h0⟩ | ⟨g, cL, rfl, hg, hgz, hcL, hcm⟩
    · rw [h0] at hL1; exact absurd hL1 (by decide)
    by_cases hk0 : k = 0
    · subst hk0
      have HREV := hide (rvs_any w g cL L wr (by omega) hg hgz HE.out (holds_own HO.out))
      go_wp2_with fail
      refine HREV.out.mono ?_
      rintro e w2 ⟨rfl, hE2, hrow, -⟩
      have HE2 := hide hE2
      have HR : Hid (Row Rd.cells 7 w2 (.slice (some ⟨g, 0, none⟩) L.length cL) (ws.getD i [] ++ [r])) := by
        show Row _ _ _ _ _
        rw [HQ.out, HW.out.zero, List.nil_append]
        obtain ⟨p', c', e', h1, h2, h3⟩ := hrow
        injection e' with e1 e2 e3
        subst e1
        rw [List.length_reverse] at h1 h2 h3
        exact ⟨_, _, by rw [List.length_reverse], by rw [List.length_reverse]; exact hcL, ⟨hcm, by rw [List.length_reverse]; exact h2.2⟩, fun _ => h3 (by omega)⟩
      clear hE2 hrow HREV
      go_wp2_with fail
      go_ret
      exact ⟨_, _, _, rfl, hg, HR.out, HE2.out⟩
    · obtain ⟨h1, h2⟩ := HW.out.up k (by omega) hk
      have HN : Hid (ws.getD i [] ++ [r] = ws.getD (vs.getD k default).fr [] ++ (L ++ [(vs.getD k default).r]).reverse) := by
        show _ = _
        rw [HQ.out, h2, List.reverse_append, List.append_assoc]; rfl
      have hat := HA.out k hk
      generalize vs.getD k default = e at h1 HN hat
      have hk1 : (0 : Int) < (k : Int) := by omega
      have hk2 : (k : Int) < (vs.length : Int) := by omega
      have HAT := hide (fun (V : World) (hV : Ext w V) j u h => (hV.cell (p := ⟨b, o + k * 10 + j, none⟩) hb).trans (hat j u h))
      have q2 := HAT.out _ HE.out 2 _ rfl
      have q3 := HAT.out _ HE.out 3 _ rfl
      have q4 := HAT.out _ HE.out 4 _ rfl
      have q5 := HAT.out _ HE.out 5 _ rfl
      have q6 := HAT.out _ HE.out 6 _ rfl
      have q7 := HAT.out _ HE.out 7 _ rfl
      have q8 := HAT.out _ HE.out 8 _ rfl
      have q9 := HAT.out _ HE.out 9 _ rfl
      have H1 := hide h1
      have HHK := hide hk0
      clear hat h1 h2 hk0
      go_upto_region 3 with (at_builtin; refine wpList_append1 rfl (.tmp 17) (.tmp 23) 27 rfl w.heap.size 43 (Rd.v default) 7 56 Try.underlying27 rd_info rfl (by decide) _ L e.r wr.heap.size rfl (HO.out.alloc _) rfl (rd_new_cells wr e.r) (rd_ones e.r) (by omega) (by decide) (by simp only [World.size_alloc]; have := HE.out.size; omega) ?_; intro v' W6 hown' hg6 hform)
      have hge := HO.out.block_ge
      have HE6 : Hid (Ext w W6) := (HE.out.alloc _).grown hg6 (fun k hk => by have := hge k hk; omega)
      have HFIN := hide hown'
      obtain ⟨g', c', rfl, -⟩ := hform
      have q2 := HAT.out _ HE6.out 2 _ rfl
      have hbz : b < W6.heap.size := by have := HE6.out.size; omega
      clear hge hown' hg6 q3 q4 q5 q6 q7 q8 q9
      go_wp2_with fail
      go_roundw
      case rel => exact ⟨e.fr, L ++ [e.r], by have := H1.out; omega, rfl, by have := H1.out; rw [List.length_append]; simp; omega, by rw [List.length_append]; simp, HN, HFIN, HE6⟩
      case measure => have := H1.out; simp [intOf]; omega
end Go.Proofs.Ytmkmgimmlohamaa

namespace Go.Proofs.Ytmkmgimmlohamaa
open Go.RowKit
attribute [local go_sem] Oper.semAt_some

theorem lacking_any (e : St) (w : World) : Calls Try.prog 34 #[e.v] w fun en w' => en = .returned (.bool (dI e)) ∧ Ext w w' := by
  have hd : dI e = decide (e.x < 0) := rfl
  rw [hd]
  go_enter Try.func34, Try.ntmps34
  go_wp2_with fail
  go_ret
  exact ⟨rfl, (Ext.refl w).alloc _⟩
theorem differ_any (e : St) (w : World) : Calls Try.prog 40 #[e.v] w fun en w' => en = .returned (.bool (dE e)) ∧ Ext w w' := by
  by_cases hx : e.x < 0
  · have hd : dE e = true := by unfold dE; simp [hx]
    rw [hd]
    go_enter Try.func40, Try.ntmps40
    go_wp2_with fail
    go_ret
    exact ⟨rfl, (Ext.refl w).alloc _⟩
  · have hd : dE e = decide (e.y < 0) := by unfold dE; simp [hx]
    rw [hd]
    go_enter Try.func40, Try.ntmps40
    go_wp2_with fail
    go_ret
    exact ⟨rfl, (Ext.refl w).alloc _⟩
/-- The error of two adversaries. -/
def bothI (A B : Adv) : Int := if achk A ≠ 0 then achk A else if achk B ≠ 0 then achk B else if A.n ≠ B.n then 22 else 0
theorem bothI_zero {A B : Adv} (h : bothI A B = 0) : achk A = 0 ∧ achk B = 0 ∧ A.n = B.n := by
  unfold bothI at h
  by_cases h1 : achk A ≠ 0
  · rw [if_pos h1] at h; exact absurd h h1
  rw [if_neg h1] at h
  by_cases h2 : achk B ≠ 0
  · rw [if_pos h2] at h; exact absurd h h2
  rw [if_neg h2] at h
  by_cases h3 : A.n ≠ B.n
  · rw [if_pos h3] at h; exact absurd h (by decide)
  exact ⟨by simpa using h1, by simpa using h2, by simpa using h3⟩
set_option maxHeartbeats 1000000 in
theorem both_any (A B : Adv) (u v : Value) (w : World) (hA : AdvRep w u A) (hB : AdvRep w v B) (hmA : movesN A ≤ 4611686018427387904) (hmB : movesN B ≤ 4611686018427387904) : Calls Try.prog 32 #[u, v] w fun en w' => en = .returned (.int .i64 (bothI A B)) ∧ Ext w w' := by
  have HA := hide hA
  have HB := hide hB
  obtain ⟨p, c, rfl, -⟩ := hA.all_
  obtain ⟨q, d, rfl, -⟩ := hB.all_
  clear hA hB
  have H1 : Hid (achk A ≠ 0 → bothI A B = achk A) := fun h => if_pos h
  have H2 : Hid (achk A = 0 → achk B ≠ 0 → bothI A B = achk B) := fun h h2 => (if_neg (fun k => k h)).trans (if_pos h2)
  have H3 : Hid (achk A = 0 → achk B = 0 → A.n ≠ B.n → bothI A B = 22) := fun h h2 h3 => (if_neg (fun k => k h)).trans ((if_neg (fun k => k h2)).trans (if_pos h3))
  have H4 : Hid (achk A = 0 → achk B = 0 → A.n = B.n → bothI A B = 0) := fun h h2 h3 => (if_neg (fun k => k h)).trans ((if_neg (fun k => k h2)).trans (if_neg (fun k => k h3)))
  generalize bothI A B = res at H1 H2 H3 H4 ⊢
  have hb1 := lt_of_heap (heap_alloc_new w (.cells #[.int .i64 A.n, .slice p A.L c] 24))
  have ha := heap_alloc_new w (.cells #[.int .i64 A.n, .slice p A.L c] 24)
  have HE1 := hide (((Ext.refl w).alloc (.cells #[.int .i64 A.n, .slice p A.L c] 24)).alloc (.cells #[.int .i64 B.n, .slice q B.L d] 24))
  have hA1 := (Below.heap_alloc (w.alloc (.cells #[.int .i64 A.n, .slice p A.L c] 24)) (.cells #[.int .i64 B.n, .slice q B.L d] 24) _ hb1).trans ha
  have hB1 := heap_alloc_new (w.alloc (.cells #[.int .i64 A.n, .slice p A.L c] 24)) (.cells #[.int .i64 B.n, .slice q B.L d] 24)
  rw [World.size_alloc] at hB1
  have HA1 := hide hA1
  have HB1 := hide hB1
  obtain ⟨W1, hW1⟩ : ∃ W1, (w.alloc (.cells #[.int .i64 A.n, .slice p A.L c] 24)).alloc (.cells #[.int .i64 B.n, .slice q B.L d] 24) = W1 := ⟨_, rfl⟩
  rw [hW1] at HE1 HA1 HB1
  have HW1 := hide hW1
  clear hb1 ha hA1 hB1 hW1
  go_enter Try.func32, Try.ntmps32
  go_wp2_with fail
  rw [HW1.out]
  refine (check_any A _ W1 (HA.out.ext HE1.out) hmA).mono ?_
  rintro e w2 ⟨rfl, hE2⟩
  have HA2 := hide ((hE2.b.block _ (lt_of_heap HA1.out)).trans HA1.out)
  have HB2 := hide ((hE2.b.block _ (lt_of_heap HB1.out)).trans HB1.out)
  have HE2 := hide (HE1.out.trans hE2)
  clear hE2 HA1 HB1 HE1 HW1
  by_cases ha0 : achk A = 0
  case neg =>
    have hd : (achk A != 0) = true := by simp [ha0]
    obtain rfl := H1.out ha0
    clear ha0 H1 H2 H3 H4
    go_wp2_with fail
    go_ret
    exact ⟨rfl, HE2.out⟩
  case pos =>
  have HZ1 := hide ha0
  rw [ha0]
  clear ha0
  have b0 := dcell HB2.out 0
  have b1 := dcell HB2.out 1
  have bz := lt_of_heap HB2.out
  go_wp2_with fail
  refine (check_any B _ w2 (HB.out.ext HE2.out) hmB).mono ?_
  rintro e w3 ⟨rfl, hE3⟩
  have HA3 := hide ((hE3.b.block _ (lt_of_heap HA2.out)).trans HA2.out)
  have HB3 := hide ((hE3.b.block _ (lt_of_heap HB2.out)).trans HB2.out)
  have HE3 := hide (HE2.out.trans hE3)
  clear hE3 HA2 HB2 HE2 b0 b1 bz
  by_cases hb0 : achk B = 0
  case neg =>
    have hd : (achk B != 0) = true := by simp [hb0]
    obtain rfl := H2.out HZ1.out hb0
    clear hb0 H1 H2 H3 H4
    go_wp2_with fail
    go_ret
    exact ⟨rfl, HE3.out⟩
  case pos =>
  have HZ2 := hide hb0
  rw [hb0]
  clear hb0
  have a0 := dcell HA3.out 0
  have az := lt_of_heap HA3.out
  have b0 := dcell HB3.out 0
  have bz := lt_of_heap HB3.out
  by_cases hn : A.n = B.n
  · have hd : (A.n != B.n) = false := by simp [hn]
    obtain rfl := H4.out HZ1.out HZ2.out hn
    clear hn H1 H2 H3 H4
    go_wp2_with fail
    go_ret
    exact ⟨rfl, HE3.out⟩
  · have hd : (A.n != B.n) = true := by simp [hn]
    obtain rfl := H3.out HZ1.out HZ2.out hn
    clear hn H1 H2 H3 H4
    go_wp2_with fail
    go_ret
    exact ⟨rfl, HE3.out⟩
end Go.Proofs.Ytmkmgimmlohamaa
