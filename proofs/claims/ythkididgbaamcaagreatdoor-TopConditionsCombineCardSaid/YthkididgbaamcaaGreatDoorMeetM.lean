/-
  The program's layer 14 (relate): has, kept, Meet's closures, copied, made, find (with the case's own slices), calm without vectors of its own.
  Conditions: as each theorem states.
-/
import Derived.Test.YthkididgbaamcaaGreatDoorStrongP
import Derived.Test.YthkididgbaamcaaGreatDoorMeetL
namespace Go.Proofs.YthkididgbaamcaaGreatDoor
open Go.RowKit
attribute [local go_sem] Oper.semAt_some

theorem phas1_any (v x : List Int) (u t : Value) (bt : Nat) (w : World) (hx : Row icells 1 w u x) (hv : Row icells 1 w t v) (h1 : SBox w bt t) :
    Calls Tryz.prog 72 #[u, .pointer (some ⟨bt, 0, none⟩)] w fun e w' => e = .returned (.bool (decide (v = x))) ∧ Ext w w' := by
  have HC := hide (seq_any v x t u w hv hx)
  have k0 : w.cell? ⟨bt, 0, none⟩ = some t := decl_cells h1 0
  have z0 := lt_of_heap h1
  obtain ⟨p, c, rfl, -⟩ := hx.int_all
  obtain ⟨q, d, rfl, -⟩ := hv.int_all
  clear hx hv h1
  generalize decide (v = x) = res at HC ⊢
  go_enter Tryz.func72, Tryz.ntmps72
  go_wp2_with fail
  refine HC.out.mono ?_
  rintro e w1 ⟨rfl, hE1⟩
  go_wp2_with fail
  go_ret
  exact ⟨rfl, hE1⟩
theorem enters_phas1 : ∀ args w, (callFunc 72 args).run Tryz.prog w = .ok (.enter 72 args) w := fun _ _ => by kernel_rfl
theorem any_mem (l : List (List Int)) (v : List Int) : (l.any fun x => decide (v = x)) = decide (v ∈ l) := by
  rw [Bool.eq_iff_iff, List.any_eq_true, decide_eq_true_iff]
  exact ⟨fun ⟨x, hx, h⟩ => by rw [of_decide_eq_true h]; exact hx, fun h => ⟨v, h, decide_eq_true rfl⟩⟩
theorem phas_any (l : List (List Int)) (v : List Int) (u t : Value) (w : World) (hl : Rows2 icells 1 w u l) (hv : Row icells 1 w t v) :
    Calls Tryz.prog 39 #[u, t] w fun e w' => e = .returned (.bool (decide (v ∈ l))) ∧ Ext w w' := by
  obtain ⟨w2, hw2⟩ : ∃ w2, w.alloc (.cells #[t] 45) = w2 := ⟨_, rfl⟩
  have HE : Hid (Ext w w2) := by show Ext _ _; rw [← hw2]; exact (Ext.refl w).alloc _
  have HS : Hid (SBox w2 w.heap.size t) := by show _ = _; rw [← hw2]; exact heap_alloc_new w _
  have HC := hide (containsV_g (fun x => decide (v = x)) 72 #[.pointer (some ⟨w.heap.size, 0, none⟩)] l u w2 (hl.ext HE.out) enters_phas1
    (fun i x W hi hW hx => phas1_any v (l.getD i []) x t _ W hx (hv.ext (HE.out.trans hW)) (HS.out.ext hW)))
  rw [any_mem] at HC
  have HW2 := hide hw2
  obtain ⟨p, c, rfl, -⟩ := hl.sl_all
  obtain ⟨q, d, rfl, -⟩ := hv.int_all
  clear hl hv hw2
  generalize decide (v ∈ l) = res at HC ⊢
  go_enter Tryz.func39, Tryz.ntmps39
  go_wp2_with fail
  rw [HW2.out]
  go_wp2_with fail
  refine HC.out.mono ?_
  rintro e w1 ⟨rfl, hE1⟩
  go_wp2_with fail
  go_ret
  exact ⟨rfl, HE.out.trans hE1⟩
/-- Values that are rows of a list, each in the world w. -/
def Rws (w : World) (vs : List Value) (l : List (List Int)) : Prop := vs.length = l.length ∧ ∀ (i : Nat) (u : Value) (xs : List Int), vs[i]? = some u → l[i]? = some xs → Row icells 1 w u xs
theorem Rws.nil (w : World) : Rws w [] [] := ⟨rfl, fun i u xs h => by simp at h⟩
theorem Rws.push {w : World} {vs : List Value} {l : List (List Int)} (h : Rws w vs l) {u : Value} {x : List Int} (hu : Row icells 1 w u x) : Rws w (vs ++ [u]) (l ++ [x]) := by
  refine ⟨by simp [h.1], fun i v xs hv hx => ?_⟩
  by_cases hlt : i < vs.length
  · rw [List.getElem?_append_left hlt] at hv
    rw [List.getElem?_append_left (by rw [← h.1]; exact hlt)] at hx
    exact h.2 i v xs hv hx
  · rw [List.getElem?_append_right (by omega)] at hv
    rw [List.getElem?_append_right (by have := h.1; omega)] at hx
    rcases Nat.eq_zero_or_pos (i - vs.length) with h0 | h0
    · rw [h0] at hv
      rw [show i - l.length = 0 by have := h.1; omega] at hx
      simp only [List.getElem?_cons_zero, Option.some.injEq] at hv hx
      subst hv hx
      exact hu
    · rw [List.getElem?_eq_none (by simp; omega)] at hv; cases hv
theorem Rws.rows2 {w W : World} {vs : List Value} {l : List (List Int)} {base : Nat} {e : TypeId} {u : Value} (h : Rws w vs l) (hE : Ext w W) (ho : Own one 1 W base e u vs) (hl : l.length ≤ 17592186044416) : Rows2 icells 1 W u l :=
  ⟨vs, h.1, ho.row (by rw [h.1]; exact hl), fun i v xs hv hx => (h.2 i v xs hv hx).ext hE⟩
theorem take_filter {P : List Int → Bool} {L : List (List Int)} {i : Nat} (hi : i < L.length) : (L.take (i + 1)).filter P = (L.take i).filter P ++ if P (L.getD i []) = true then [L.getD i []] else [] := by
  rw [List.take_succ_eq_append_getElem hi, List.filter_append, List.getD_eq_getElem?_getD, List.getElem?_eq_getElem hi]
  show _ ++ List.filter P [L[i]] = _ ++ if P L[i] = true then [L[i]] else []
  by_cases h : P L[i] = true
  · rw [if_pos h, List.filter_cons_of_pos h, List.filter_nil]
  · rw [if_neg h, List.filter_cons_of_neg h, List.filter_nil]
set_option maxRecDepth 16000 in
set_option maxHeartbeats 1000000 in
theorem pkept_any (P : List Int → Bool) (fid : Nat) (lb : Array Value) (L : List (List Int)) (u : Value) (w : World) (hu : Rows2 icells 1 w u L) (hl : L.length ≤ 100000)
    (ef : ∀ args w, (callFunc fid args).run Tryz.prog w = .ok (.enter fid args) w)
    (hF : ∀ i v W, i < L.length → Ext w W → Row icells 1 W v (L.getD i []) → Calls Tryz.prog fid (#[v] ++ lb) W fun e w' => e = .returned (.bool (P (L.getD i []))) ∧ Ext W w') :
    Calls Tryz.prog 37 #[u, .func (.func fid) #[] lb] w (RetV (fun u' w' => Rows2 icells 1 w' u' (L.filter P)) w) := by
  have HC := hide hF
  obtain ⟨p, c, rfl, hc, hlen, hat⟩ := hu.sl_all
  have HA := hide hat
  have HT0 : Hid ((L.take 0).filter P = []) := rfl
  have HTS : Hid (∀ i, i < L.length → (L.take (i + 1)).filter P = (L.take i).filter P ++ if P (L.getD i []) = true then [L.getD i []] else []) := fun i hi => take_filter hi
  have HTL : Hid (∀ i, ((L.take i).filter P).length ≤ i) := fun i => Nat.le_trans (List.length_filter_le _ _) (by simp; omega)
  have HTA : Hid ((L.take L.length).filter P = L.filter P) := by show _ = _; rw [List.take_length]
  generalize hf : (fun i => (L.take i).filter P) = tk at HT0 HTS HTL HTA
  replace HT0 : Hid (tk 0 = []) := by rw [← hf]; exact HT0
  replace HTS : Hid (∀ i, i < L.length → tk (i + 1) = tk i ++ if P (L.getD i []) = true then [L.getD i []] else []) := by rw [← hf]; exact HTS
  replace HTL : Hid (∀ i, (tk i).length ≤ i) := by rw [← hf]; exact HTL
  replace HTA : Hid (tk L.length = L.filter P) := by rw [← hf]; exact HTA
  clear hf
  clear hu hat hF
  go_enter Tryz.func37, Tryz.ntmps37
  go_wp2_with fail
  go_loopw [10, 5] (fun x y wr => ∃ i : Nat, i ≤ L.length ∧ x = .int .i64 i ∧ Hid (∃ vs, Own one 1 wr w.heap.size 45 y vs ∧ Rws w vs (tk i)) ∧ Hid (Ext w wr)) (fun x _ _ => L.length - (intOf x).toNat)
  case atStart => exact ⟨0, by omega, rfl, ⟨[], Own.nil _ _ _ (fun _ => rfl), by rw [HT0.out]; exact Rws.nil _⟩, Ext.refl _⟩
  case round =>
    obtain ⟨i, hi, rfl, HV, HE⟩ := hrel
    obtain ⟨vs, hown, hrws⟩ := HV.out
    obtain ⟨qy, ky, hye⟩ := hown.sl
    subst hye
    have HO := hide hown
    have HRW := hide hrws
    clear hown hrws HV
    by_cases hlt : i < L.length
    · obtain ⟨b, o, rfl, hb, hat⟩ := HA.out (by omega)
      obtain ⟨q, d, hx, hrow, hlx⟩ := hat i hlt
      replace hx := hx _ HE.out
      have hbz := Nat.lt_of_lt_of_le hb HE.out.size
      have HTS' := hide (HTS.out i hlt)
      have HROW := hide hrow
      have HC2 := hide (HC.out i _ wr hlt HE.out (hrow.ext HE.out))
      have HLI := hide (HTL.out i)
      have HVL := hide HRW.out.1
      clear hat hrow
      generalize L.getD i [] = y at hx hlx HTS' HROW HC2
      generalize P y = r at HTS' HC2
      go_wp2_with fail
      refine HC2.out.mono ?_
      rintro e W1 ⟨rfl, hE1⟩
      have HE1 := hide (HE.out.trans hE1)
      have HO1 := hide (HO.out.ext hE1)
      clear hE1 hx hbz
      cases r
      · have HN : Hid (tk (i + 1) = tk i) := by show _ = _; rw [HTS'.out]; simp
        go_wp2_with fail
        go_roundw
        case rel => exact ⟨i + 1, by omega, by go_num, ⟨vs, HO1.out, by rw [HN.out]; exact HRW.out⟩, HE1.out⟩
        case measure => simp [intOf]; omega
      · have HN : Hid (tk (i + 1) = tk i ++ [y]) := by show _ = _; rw [HTS'.out]; simp
        have hvl : vs.length ≤ 100000 := by have := HVL.out; have := HLI.out; omega
        go_wp2_with (at_builtin; refine wpList_append1 rfl (.tmp 17) (.tmp 19) 56 rfl w.heap.size 45 (.slice none 0 0) 1 24 Tryz.underlying56 islice_info rfl (by decide) _ vs (.slice q y.length d) W1.heap.size rfl (HO1.out.alloc _) rfl (cell_new1 _ _ _) (by intro x hx; simp only [List.mem_singleton] at hx; rw [hx]; rfl) (by omega) (by decide) (by have := HE1.out.size; simp; omega) ?_; intro v3 w3 hc3 hg3 hf3)
        obtain ⟨g3, c3, rfl, -⟩ := hf3
        have HC3 : Hid (Own one 1 w3 w.heap.size 45 (.slice (some ⟨g3, 0, none⟩) (vs.length + 1) c3) (vs ++ [.slice q y.length d])) := hc3
        have HE3 : Hid (Ext w w3) := (HE1.out.alloc _).grown hg3 (fun k hk => HO1.out.block_ge k hk)
        clear hc3 hg3
        go_wp2_with fail
        go_roundw
        case rel => exact ⟨i + 1, by omega, by go_num, ⟨_, HC3.out, by rw [HN.out]; exact HRW.out.push HROW.out⟩, HE3.out⟩
        case measure => simp [intOf]; omega
    · obtain rfl : i = L.length := by omega
      go_wp2_with fail
      go_ret
      refine ⟨_, rfl, ?_, HE.out⟩
      have h := HRW.out
      rw [HTA.out] at h
      exact h.rows2 HE.out HO.out (Nat.le_trans (List.length_filter_le _ _) (by omega))
def S2Box (W : World) (b : Nat) (v : Value) : Prop := W.heap[b]? = some (.cells #[v] 56 (0, 0))
theorem S2Box.ext {W W' : World} {b : Nat} {v : Value} (h : S2Box W b v) (hE : Ext W W') : S2Box W' b v := (hE.b.block _ (lt_of_heap h)).trans h
theorem pmeet11_any (l : List (List Int)) (x : List Int) (u t : Value) (bt : Nat) (w : World) (hx : Row icells 1 w u x) (hl : Rows2 icells 1 w t l) (h1 : S2Box w bt t) :
    Calls Tryz.prog 38 #[u, .pointer (some ⟨bt, 0, none⟩)] w fun e w' => e = .returned (.bool (decide (x ∈ l))) ∧ Ext w w' := by
  have HC := hide (phas_any l x t u w hl hx)
  have k0 : w.cell? ⟨bt, 0, none⟩ = some t := decl_cells h1 0
  have z0 := lt_of_heap h1
  obtain ⟨p, c, rfl, -⟩ := hx.int_all
  obtain ⟨q, d, rfl, -⟩ := hl.sl_all
  clear hx hl h1
  generalize decide (x ∈ l) = res at HC ⊢
  go_enter Tryz.func38, Tryz.ntmps38
  go_wp2_with fail
  refine HC.out.mono ?_
  rintro e w1 ⟨rfl, hE1⟩
  go_wp2_with fail
  go_ret
  exact ⟨rfl, hE1⟩
theorem enters_pmeet11 : ∀ args w, (callFunc 38 args).run Tryz.prog w = .ok (.enter 38 args) w := fun _ _ => by kernel_rfl
theorem enters_pmeet1 : ∀ args w, (callFunc 36 args).run Tryz.prog w = .ok (.enter 36 args) w := fun _ _ => by kernel_rfl
/-- The vectors of x that y has, too. -/
theorem pmeet1_any (x y : List (List Int)) (u t : Value) (w : World) (hx : Rows2 icells 1 w u x) (hy : Rows2 icells 1 w t y) (hl : x.length ≤ 100000) :
    Calls Tryz.prog 36 #[u, t] w (RetV (fun u' w' => Rows2 icells 1 w' u' (meetL x y)) w) := by
  obtain ⟨w2, hw2⟩ : ∃ w2, w.alloc (.cells #[t] 56) = w2 := ⟨_, rfl⟩
  have HE : Hid (Ext w w2) := by show Ext _ _; rw [← hw2]; exact (Ext.refl w).alloc _
  have HS : Hid (S2Box w2 w.heap.size t) := by show _ = _; rw [← hw2]; exact heap_alloc_new w _
  have HC := hide (pkept_any (fun v => decide (v ∈ y)) 38 #[.pointer (some ⟨w.heap.size, 0, none⟩)] x u w2 (hx.ext HE.out) hl enters_pmeet11
    (fun i v W hi hW hv => pmeet11_any y (x.getD i []) v t _ W hv (hy.ext (HE.out.trans hW)) (HS.out.ext hW)))
  have HW2 := hide hw2
  obtain ⟨p, c, rfl, -⟩ := hx.sl_all
  obtain ⟨q, d, rfl, -⟩ := hy.sl_all
  clear hx hy hw2 hl
  go_enter Tryz.func36, Tryz.ntmps36
  go_wp2_with fail
  rw [HW2.out]
  go_wp2_with fail
  refine HC.out.mono ?_
  rintro e w1 ⟨v, rfl, hv, hE1⟩
  obtain ⟨_, _, e1, -⟩ := hv.sl_all
  have HV := hide hv
  subst e1
  clear hv
  go_wp2_with fail
  go_ret
  exact ⟨_, rfl, HV.out, HE.out.trans hE1⟩
end Go.Proofs.YthkididgbaamcaaGreatDoor

namespace Go.Proofs.YthkididgbaamcaaGreatDoor
open Go.RowKit
attribute [local go_sem] Oper.semAt_some

set_option maxRecDepth 16000 in
set_option maxHeartbeats 1000000 in
theorem pcopied_any (L : List (List Int)) (u : Value) (w : World) (hu : Rows2 icells 1 w u L) (hl : L.length ≤ 100000) (hL : ∀ i, i < L.length → 0 < (L.getD i []).length ∧ (L.getD i []).length ≤ 100000) :
    Calls Tryz.prog 79 #[u] w (RetV (fun u' w' => Coll 45 3 icells 1 w' w.heap.size u' L) w) := by
  obtain ⟨p, c, rfl, hc, hlen, hat⟩ := hu.sl_all
  have HA := hide hat
  have HL := hide hL
  have HT0 : Hid (firstN L 0 = []) := rfl
  have HTS : Hid (∀ i, i < L.length → firstN L (i + 1) = firstN L i ++ [L.getD i []]) := fun i hi => by
    unfold firstN
    rw [List.take_succ_eq_append_getElem hi, List.getD_eq_getElem?_getD, List.getElem?_eq_getElem hi]; rfl
  have HTL : Hid (∀ i, (firstN L i).length ≤ i) := fun i => by simp [firstN]; omega
  have HTA : Hid (firstN L L.length = L) := List.take_length
  generalize firstN L = tk at HT0 HTS HTL HTA
  clear hu hat hL
  go_enter Tryz.func79, Tryz.ntmps79
  go_wp2_with fail
  go_loopw [8, 3] (fun x y wr => ∃ i : Nat, i ≤ L.length ∧ x = .int .i64 i ∧ Hid (Coll 45 3 icells 1 wr w.heap.size y (tk i)) ∧ Hid (Ext w wr)) (fun x _ _ => L.length - (intOf x).toNat)
  case atStart => exact ⟨0, by omega, rfl, by rw [HT0.out]; exact Coll.nil _ _, Ext.refl _⟩
  case round =>
    obtain ⟨i, hi, rfl, HC, HE⟩ := hrel
    obtain ⟨qy, ky, hye⟩ := HC.out.sl
    subst hye
    by_cases hlt : i < L.length
    · obtain ⟨b, o, rfl, hb, hat⟩ := HA.out (by omega)
      obtain ⟨q, d, hx, hrow, hlx⟩ := hat i hlt
      replace hx := hx _ HE.out
      have hbz := Nat.lt_of_lt_of_le hb HE.out.size
      obtain ⟨hl0, hl1⟩ := HL.out i hlt
      have hts := HTS.out i hlt
      have HTS' := hide hts
      clear hts hat
      generalize L.getD i [] = y at hx hrow hlx hl0 hl1 HTS'
      obtain ⟨_, _, e, -, -, hp⟩ := hrow.int_all
      obtain ⟨by_, oy, hq, -, -⟩ := hp hl0
      injection e with e1 _ e3
      subst e1 e3
      subst hq
      have HCL := hide (cloneI_any y by_ oy d wr (hrow.ext HE.out) hl1)
      clear hrow hp
      have HLI := hide (HTL.out i)
      go_wp2_with fail
      refine HCL.out.mono ?_
      rintro e W1 ⟨⟨yv, rfl, hyv⟩, hE1⟩
      have HYV := hide (hyv.rowE (by omega))
      obtain ⟨qv, kv, rfl⟩ := hyv.sl
      have HE1 := hide (HE.out.trans hE1)
      have HE1' := hide hE1
      have HC1 := hide (HC.out.ext hE1)
      clear hyv hE1 hx hbz
      go_wp2_with (at_builtin; refine wpList_push rfl (.tmp 12) (.tmp 15) 56 rfl w.heap.size 45 3 1 (by decide) Tryz.underlying56 islice_info _ (tk i) _ y W1.heap.size rfl (HC1.out.ext ((Ext.refl _).alloc _)) rfl (cell_new1 _ _ _) (HYV.out.ext ((Ext.refl _).alloc _)) (by have := HLI.out; omega) (by have := HE1.out.size; simp; omega) ?_; intro v3 w3 hc3 hg3 hf3)
      obtain ⟨g3, c3, rfl, -⟩ := hf3
      have HC3 : Hid (Coll 45 3 icells 1 w3 w.heap.size (.slice (some ⟨g3, 0, none⟩) ((tk i).length + 1) c3) (tk (i + 1))) := by rw [HTS'.out]; exact hc3
      have HE3 : Hid (Ext w w3) := (HE1.out.alloc _).grown hg3 (fun k hk => HC1.out.block_ge k hk)
      clear hc3 hg3
      go_wp2_with fail
      go_roundw
      case rel => exact ⟨i + 1, by omega, by go_num, HC3.out, HE3.out⟩
      case measure => simp [intOf]; omega
    · obtain rfl : i = L.length := by omega
      go_wp2_with fail
      go_ret
      refine ⟨_, rfl, ?_, HE.out⟩
      show Coll _ _ _ _ _ _ (.slice qy (tk L.length).length ky) L
      have h := HC.out
      rw [HTA.out] at h ⊢
      exact h

set_option maxRecDepth 16000 in
set_option maxHeartbeats 1000000 in
/-- slices.EqualFunc on lists that are the same. -/
theorem peqf_any (L : List (List Int)) (u t : Value) (w : World) (hu : Rows2 icells 1 w u L) (ht : Rows2 icells 1 w t L) :
    Calls Tryz.prog 80 #[u, t, .func (.func 16) #[] #[]] w fun e w' => e = .returned (.bool true) ∧ Ext w w' := by
  obtain ⟨p, c, rfl, -, hlen, hat⟩ := hu.sl_all
  obtain ⟨q, d, rfl, -, -, hbt⟩ := ht.sl_all
  have ef : ∀ args w, (callFunc 16 args).run Tryz.prog w = .ok (.enter 16 args) w := fun _ _ => by kernel_rfl
  have HA := hide hat
  have HB := hide hbt
  have HEQ : Hid (∀ x u t W, Row icells 1 W u x → Row icells 1 W t x → Calls Tryz.prog 16 #[u, t] W fun e w' => e = .returned (.bool true) ∧ Ext W w') := fun x u t W h1 h2 => by
    have := seq_any x x u t W h1 h2
    rwa [decide_eq_true rfl] at this
  clear hu ht hat hbt
  generalize L.length = n at *
  go_enter Tryz.func80, Tryz.ntmps80
  go_wp2_with fail
  go_loopw [17] (fun x wr => ∃ i : Nat, i ≤ n ∧ x = .int .i64 i ∧ Hid (Ext w wr)) (fun x _ => n - (intOf x).toNat)
  case atStart => exact ⟨0, by omega, rfl, Ext.refl _⟩
  case round =>
    obtain ⟨i, hi, rfl, HE⟩ := hrel
    by_cases hlt : i < n
    · obtain ⟨b, o, rfl, hb, hat⟩ := HA.out (by omega)
      obtain ⟨b2, o2, rfl, hb2, hbt⟩ := HB.out (by omega)
      obtain ⟨q1, d1, hx, hrow, hlx⟩ := hat i hlt
      obtain ⟨q2, d2, hy, hrow2, -⟩ := hbt i hlt
      replace hx := hx _ HE.out
      replace hy := hy _ HE.out
      have hbz := Nat.lt_of_lt_of_le hb HE.out.size
      have hbz2 := Nat.lt_of_lt_of_le hb2 HE.out.size
      have HQ := hide (HEQ.out _ _ _ wr (hrow.ext HE.out) (hrow2.ext HE.out))
      clear hat hbt hrow hrow2
      generalize (L.getD i []).length = m at *
      go_wp2_with fail
      refine HQ.out.mono ?_
      rintro e w1 ⟨rfl, hE1⟩
      have HE1 := hide (HE.out.trans hE1)
      clear hE1 hx hy hbz hbz2 HQ
      go_wp2_with fail
      go_roundw
      case rel => exact ⟨i + 1, by omega, by go_num, HE1.out⟩
      case measure => simp [intOf]; omega
    · obtain rfl : i = n := by omega
      go_wp2_with fail
      go_ret
      exact ⟨rfl, HE.out⟩
theorem leave_case1 {fn : Func} {R : Ending → World → Prop} {t : Act} {a : Tmp} {W : World} {g : Nat} {u0 u1 u2 : Value} (h : fn.results = #[.cell a 60]) (hd : t.defers = []) (ha : t.tmps.getD a undef = .pointer (some ⟨g, 0, none⟩))
    (hC : CBox W g u0 u1 u2) (hR : R (.returned (.agg #[u0, u1, u2])) W) : bodyPost Tryz.prog fn R .ret t W := by
  obtain ⟨h0, h1, h2, -⟩ := hC.cells
  refine bodyPost_ret ?_ hd hR
  rw [Array.getD_eq_getD_getElem?] at ha
  simp [results, h, ha, go_sem, h0, h1, h2]
set_option maxRecDepth 16000 in
set_option maxHeartbeats 2000000 in
/-- A case with the same vectors for some faulty processes, and for none. -/
theorem pmade_any (x : List Int) (L : List (List Int)) (b o c : Nat) (u t : Value) (w : World) (hx : Row icells 1 w (.slice (some ⟨b, o, none⟩) x.length c) x) (hu : Rows2 icells 1 w u L) (ht : Rows2 icells 1 w t L) (hxl : x.length ≤ 100000) (hl : L.length ≤ 100000)
    (hL : ∀ i, i < L.length → 0 < (L.getD i []).length ∧ (L.getD i []).length ≤ 100000) :
    Calls Tryz.prog 45 #[.slice (some ⟨b, o, none⟩) x.length c, u, t] w fun e w' => ∃ y : Value × Value × Value, e = .returned (.agg #[y.1, y.2.1, y.2.2]) ∧ CaseAt w' y ⟨x, L, []⟩ ∧ Ext w w' := by
  have HCI := hide (fun W (hW : Ext w W) => cloneI_any x b o c W (hx.ext hW) hxl)
  have HCP := hide (fun W (hW : Ext w W) => pcopied_any L u W (hu.ext hW) hl hL)
  have HEF := hide (fun W (hW : Ext w W) => peqf_any L u t W (hu.ext hW) (ht.ext hW))
  obtain ⟨pu, cu, rfl, -⟩ := hu.sl_all
  obtain ⟨pt, ct, rfl, -⟩ := ht.sl_all
  clear hx hu ht hL
  obtain ⟨w2, hw2⟩ : ∃ w2, w.alloc cobj0 = w2 := ⟨_, rfl⟩
  have HE : Hid (Ext w w2) := by show Ext _ _; rw [← hw2]; exact (Ext.refl w).alloc _
  have HB : Hid (CBox w2 w.heap.size (.slice none 0 0) (.slice none 0 0) (.slice none 0 0)) := by show _ = _; rw [← hw2]; exact heap_alloc_new w _
  have HW2 := hide hw2
  clear hw2
  go_enter Tryz.func45, Tryz.ntmps45
  go_wp2_with fail
  show Calls _ _ _ (w.alloc cobj0) _
  rw [HW2.out]
  refine (HCI.out _ HE.out).mono ?_
  rintro e W1 ⟨⟨u1, rfl, hown1⟩, hE1⟩
  have HE1 := hide (HE.out.trans hE1)
  have HI1 := hide (hown1.rowE (by omega))
  have HB1 := hide (HB.out.ext hE1)
  obtain ⟨q1, k1, rfl⟩ := hown1.sl
  clear hown1 hE1
  go_wp2_with fail
  refine (HCP.out _ HE1.out).mono ?_
  rintro e W2 ⟨u2, rfl, hcol2, hE2⟩
  have HE2 := hide (HE1.out.trans hE2)
  have HI2 := hide (HI1.out.ext hE2)
  have HB2 := hide (HB1.out.ext hE2)
  have HC2 := hide (hcol2.mono (Nat.zero_le _))
  obtain ⟨q2, k2, rfl⟩ := hcol2.sl
  clear hcol2 hE2
  go_wp2_with fail
  obtain ⟨W3, hW3⟩ : ∃ W3, W2.alloc (.cells #[.slice q1 x.length k1, .slice q2 L.length k2, .slice none 0 0] 60) = W3 := ⟨_, rfl⟩
  have HE23 : Hid (Ext W2 W3) := by show Ext _ _; rw [← hW3]; exact (Ext.refl _).alloc _
  have HCB : Hid (CBox W3 W2.heap.size (.slice q1 x.length k1) (.slice q2 L.length k2) (.slice none 0 0)) := by show _ = _; rw [← hW3]; exact heap_alloc_new W2 _
  rw [hW3]
  refine (HEF.out _ (HE2.out.trans HE23.out)).mono ?_
  rintro e W4 ⟨rfl, hE4⟩
  have HE4 := hide (HE23.out.trans hE4)
  have HCB4 := hide (HCB.out.ext hE4)
  have HB4 := hide (HB2.out.ext HE4.out)
  have HNE : Hid (w.heap.size ≠ W2.heap.size) := by have := lt_of_heap HB2.out; show _ ≠ _; omega
  obtain ⟨c0, c1, c2, -, -, cz⟩ := HCB4.out.cells
  obtain ⟨d0, d1, d2, f1, f2, dz⟩ := HB4.out.cells
  have f0 : W4.frozen? ⟨w.heap.size, 0, none⟩ = false := frozen_of HB4.out
  clear hE4 hW3 HE23 HCB HB HB1 HW2 HCI HCP HEF
  go_wp2_with fail
  have hfin := ext_store3 (HE2.out.trans HE4.out) (Nat.le_refl _) (.slice q1 x.length k1) (.slice q2 L.length k2) (.slice none 0 0)
  have hst : Stay W4 (((W4.setCell ⟨w.heap.size, 0, none⟩ (.slice q1 x.length k1)).setCell ⟨w.heap.size, 1, none⟩ (.slice q2 L.length k2)).setCell ⟨w.heap.size, 2, none⟩ (.slice none 0 0)) :=
    ((Stay.set HB4.out (by decide) (by decide) 0 _).trans (Stay.set (heap_set HB4.out _) (by decide) (by decide) 1 _)).trans (Stay.set (heap_set (heap_set HB4.out _) _) (by decide) (by decide) 2 _)
  have hca : CaseAt W4 (.slice q1 x.length k1, .slice q2 L.length k2, .slice none 0 0) ⟨x, L, []⟩ := ⟨HI2.out.ext HE4.out, HC2.out.ext HE4.out, Coll.nil _ _⟩
  exact leave_case1 rfl rfl rfl (HB4.out.store _ _ _) ⟨(.slice q1 x.length k1, .slice q2 L.length k2, .slice none 0 0), rfl, hca.stay hst, hfin⟩
/-- A task's cases in the heap, with their own slices. -/
theorem TkAt.all_ {w : World} {v : Value} {T : Tk} (h : TkAt w v T) (hl : ∀ c ∈ T.cs, c.out.length ≤ 17592186044416 ∧ c.calm.length ≤ 17592186044416) :
    ∃ (p : Option Addr) (c : Nat), v = .agg #[.int .i64 T.n, .int .i64 T.ins, .int .i64 T.outs, .slice p T.cs.length c] ∧ T.cs.length ≤ c ∧ T.cs.length ≤ 17592186044416 ∧
      (0 < T.cs.length → ∃ b o, p = some ⟨b, o, none⟩ ∧ b < w.heap.size ∧ ∀ i, i < T.cs.length → ∃ q0 k0 q1 k1 q2 k2, CsAt w b (o + i * 3) (T.cs.getD i default) q0 k0 q1 k1 q2 k2 ∧
        CaseAt w (.slice q0 (T.cs.getD i default).inp.length k0, .slice q1 (T.cs.getD i default).out.length k1, .slice q2 (T.cs.getD i default).calm.length k2) (T.cs.getD i default)) := by
  obtain ⟨u, vs, rfl, hlen, ⟨p, c, rfl, hc, hcm, hp⟩, hcs⟩ := h
  rw [hlen] at hc hcm hp ⊢
  refine ⟨p, c, rfl, hc, hcm.2, fun h0 => ?_⟩
  obtain ⟨b, o, rfl, hb, hat⟩ := hp h0
  refine ⟨b, o, rfl, hb, fun i hi => ?_⟩
  have hv : vs[i]? = some (vs[i]'(by omega)) := List.getElem?_eq_getElem _
  have hT : T.cs[i]? = some (T.cs[i]) := List.getElem?_eq_getElem hi
  have hg : T.cs.getD i default = T.cs[i] := by rw [List.getD_eq_getElem?_getD, hT]; rfl
  have hC := hcs i _ _ hv hT
  have hx := hat i _ hv
  obtain ⟨hlo, hlc⟩ := hl _ (List.getElem_mem hi)
  rw [hg]
  generalize vs[i]'(by omega) = t at hC hx
  obtain ⟨t0, t1, t2⟩ := t
  obtain ⟨q0, k0, e0, -, hl0, -⟩ := hC.inp.1.int_all
  obtain ⟨q1, k1, e1⟩ := hC.out.sl
  obtain ⟨q2, k2, e2⟩ := hC.calm.sl
  dsimp only at e0 e1 e2
  subst e0 e1 e2
  have key : ∀ j u, (tenc (Value.slice q0 T.cs[i].inp.length k0, Value.slice q1 T.cs[i].out.length k1, Value.slice q2 T.cs[i].calm.length k2))[j]? = some u → ∀ W, Ext w W → W.cell? ⟨b, o + i * 3 + j, none⟩ = some u := fun j u hu W hE => (hE.cell (p := ⟨b, _, none⟩) hb).trans (hx j u hu)
  exact ⟨q0, k0, q1, k1, q2, k2, ⟨key 0 _ rfl, key 1 _ rfl, key 2 _ rfl, hC.inp.1, hC.out.rows2 hlo, hC.calm.rows2 hlc, hl0, hlo, hlc⟩, hC⟩
set_option maxRecDepth 16000 in
set_option maxHeartbeats 2000000 in
/-- The case of a task with an input that it has. -/
theorem pfindT_any (T : Tk) (x : List Int) (m : Nat) (hm : m < T.cs.length) (hf : fnd T x = m) (v u : Value) (w : World) (hv : TkAt w v T) (hlo : ∀ c ∈ T.cs, c.out.length ≤ 17592186044416 ∧ c.calm.length ≤ 17592186044416) (hx : Row icells 1 w u x) :
    Calls Tryz.prog 44 #[v, u] w fun e w' => ∃ q0 k0 q1 k1 q2 k2, e = .returned (.tuple #[.agg #[.slice q0 (T.cs.getD m default).inp.length k0, .slice q1 (T.cs.getD m default).out.length k1, .slice q2 (T.cs.getD m default).calm.length k2], .bool true]) ∧
      CaseAt w (.slice q0 (T.cs.getD m default).inp.length k0, .slice q1 (T.cs.getD m default).out.length k1, .slice q2 (T.cs.getD m default).calm.length k2) (T.cs.getD m default) ∧ Ext w w' := by
  have hrep := hv.rep hlo
  obtain ⟨p, c, rfl, hcl, hl, hat⟩ := hv.all_ hlo
  obtain ⟨w2, hw2⟩ : ∃ w2, ((w.alloc (.cells #[.int .i64 T.n, .int .i64 T.ins, .int .i64 T.outs, .slice p T.cs.length c] 33)).alloc (.cells #[u] 45)).alloc (.cells #[.slice none 0 0, .slice none 0 0, .slice none 0 0] 60) = w2 := ⟨_, rfl⟩
  have HE : Hid (Ext w w2) := by show Ext _ _; rw [← hw2]; exact (((Ext.refl w).alloc _).alloc _).alloc _
  have HT : Hid (TBox w2 w.heap.size (.int .i64 T.n) (.int .i64 T.ins) (.int .i64 T.outs) (.slice p T.cs.length c)) := by
    show _ = _
    rw [← hw2, Below.heap_alloc _ _ _ (by simp; omega), Below.heap_alloc _ _ _ (by simp)]
    exact heap_alloc_new w _
  have HS : Hid (SBox w2 (w.heap.size + 1) u) := by show _ = _; rw [← hw2]; exact at3_1 _ _ _ _ _ _ _
  have HB : Hid (CBox w2 (w.heap.size + 1 + 1) (.slice none 0 0) (.slice none 0 0) (.slice none 0 0)) := by show _ = _; rw [← hw2]; exact at3_2 _ _ _ _ _ _ _
  have HW2 := hide hw2
  have HA := hide hat
  have HI := hide (idxC_g (fun c => decide (c.inp = x)) 78 #[.pointer (some ⟨w.heap.size + 1, 0, none⟩)] T (.int .i64 0) (.int .i64 0) (.int .i64 0) p c w2 (hrep.ext HE.out) enters_pfind1
    (fun i v W _ hW hv => pfind1_any _ x v u _ W hv (hx.ext (HE.out.trans hW)) (HS.out.ext hW)))
  have HFD : Hid (firstAt (fun i => decide ((T.cs.getD i default).inp = x)) T.cs.length = m) := hf
  rw [HFD.out] at HI
  have HLT := hide hm
  obtain ⟨t0, t1, t2, t3⟩ := HT.out.cells
  have z0 := lt_of_heap HT.out
  obtain ⟨qx, kx, rfl, -⟩ := hx.int_all
  clear hv hx hw2 hat HFD hrep hm hlo
  go_enter Tryz.func44, Tryz.ntmps44
  go_wp2_with fail
  rw [HW2.out]
  go_wp2_with fail
  refine HI.out.mono ?_
  rintro e W1 ⟨rfl, hE1⟩
  have HE1 := hide hE1
  have HB1 := hide (HB.out.ext hE1)
  obtain ⟨t0, t1, t2, t3⟩ := (HT.out.ext hE1).cells
  have z0 := lt_of_heap (HT.out.ext hE1)
  obtain ⟨b0, b1, b2, f1, f2, bz⟩ := HB1.out.cells
  have f0 : W1.frozen? ⟨w.heap.size + 1 + 1, 0, none⟩ = false := frozen_of HB1.out
  clear hE1
  have hd : decide ((m : Int) < 0) = false := decide_eq_false (by omega)
  have hlt := HLT.out
  obtain ⟨b, o, rfl, hb, hat⟩ := HA.out (by omega)
  obtain ⟨q0, k0, q1, k1, q2, k2, hC, hCA⟩ := hat m hlt
  have x0 := hC.c0 _ (HE.out.trans HE1.out)
  have x1 := hC.c1 _ (HE.out.trans HE1.out)
  have x2 := hC.c2 _ (HE.out.trans HE1.out)
  have hbz := Nat.lt_of_lt_of_le hb (HE.out.trans HE1.out).size
  have HCA := hide hCA
  clear hat hC hCA
  generalize h0 : (T.cs.getD m default).inp.length = l0 at x0
  generalize h1 : (T.cs.getD m default).out.length = l1 at x1
  generalize h2 : (T.cs.getD m default).calm.length = l2 at x2
  have H0 := hide h0
  have H1 := hide h1
  have H2 := hide h2
  clear h0 h1 h2
  go_wp2_with fail
  have hfin := ext_store3 (HE.out.trans HE1.out) (show w.heap.size ≤ w.heap.size + 1 + 1 by omega) (.slice q0 l0 k0) (.slice q1 l1 k1) (.slice q2 l2 k2)
  exact leave_case (v := .bool true) rfl rfl rfl rfl (HB1.out.store _ _ _) ⟨q0, k0, q1, k1, q2, k2, by rw [H0.out, H1.out, H2.out], HCA.out, hfin⟩
/-- The vectors of a case without vectors of its own for no faulty processes. -/
theorem pcalm0_any (s0 s1 : Value) (p0 p1 p2 : Option Addr) (l0 k0 l1 k1 k2 : Nat) (h0 : s0 = .slice p0 l0 k0) (h1 : s1 = .slice p1 l1 k1) (W : World) :
    Calls Tryz.prog 46 #[.agg #[s0, s1, .slice p2 0 k2]] W fun e w' => e = .returned s1 ∧ Ext W w' := by
  subst h0 h1
  go_enter Tryz.func46, Tryz.ntmps46
  go_wp2_with fail
  go_ret
  exact ⟨rfl, (Ext.refl _).alloc _⟩
end Go.Proofs.YthkididgbaamcaaGreatDoor
