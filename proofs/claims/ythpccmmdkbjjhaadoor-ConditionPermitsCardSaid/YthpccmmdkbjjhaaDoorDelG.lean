/-
  Graphs struck from a list (slices.DeleteFunc, IndexFunc at the closure of condition.Graphs).
  Conditions: as each theorem states.
-/
import Derived.Test.YthpccmmdkbjjhaaDoorGrAll
import Derived.Test.YthpccmmdkbjjhaaDoorHolds
import Derived.Test.YthpccmmdkbjjhaaDoorClosI
import Derived.Deep.CutRange
import Derived.Laws.IdiomCopy
namespace Go.Proofs.YthpccmmdkbjjhaaDoor
open Go.RowKit
attribute [local go_sem] Oper.semAt_some

/-- The six cells of element i. -/
def AtG (V : World) (g i : Nat) (x : Gr) : Prop :=
  V.cell? ⟨g, i * 6, none⟩ = some (.int .i64 x.n) ∧ V.cell? ⟨g, i * 6 + 1, none⟩ = some (.int .i64 x.h0) ∧ V.cell? ⟨g, i * 6 + 2, none⟩ = some (.int .i64 x.h1) ∧
  V.cell? ⟨g, i * 6 + 3, none⟩ = some (.int .i64 x.h2) ∧ V.cell? ⟨g, i * 6 + 4, none⟩ = some (.int .i64 x.h3) ∧ V.cell? ⟨g, i * 6 + 5, none⟩ = some (.int .i64 x.h4)
theorem AtG.of_block {V V' : World} {g i : Nat} {x : Gr} (h : AtG V g i x) (hb : V'.heap[g]? = V.heap[g]?) : AtG V' g i x := by
  obtain ⟨h0, h1, h2, h3, h4, h5⟩ := h
  have k : ∀ j, V'.cell? ⟨g, j, none⟩ = V.cell? ⟨g, j, none⟩ := fun j => World.cell?_of_block (a := ⟨g, j, none⟩) hb
  exact ⟨(k _).trans h0, (k _).trans h1, (k _).trans h2, (k _).trans h3, (k _).trans h4, (k _).trans h5⟩
theorem Own.atG {w : World} {base g c n : Nat} {L : List Gr} (h : Own Gr.cells 6 w base 70 (.slice (some ⟨g, 0, none⟩) n c) L) : ∀ i, i < L.length → AtG w g i (L.getD i default) := fun i hi => by
  have hx : L[i]? = some (L.getD i default) := by rw [List.getD_eq_getElem?_getD, List.getElem?_eq_getElem hi]; rfl
  have hj : ∀ j u, (Gr.cells (L.getD i default))[j]? = some u → j < 6 → w.cell? ⟨g, i * 6 + j, none⟩ = some u := fun j u hu hj => by
    have := h.2.cells (g := g) rfl (i * 6 + j) u (by rw [flat_get h.1 L i j _ hx hj]; exact hu)
    rw [add_lit] at this
    exact this
  exact ⟨hj 0 _ rfl (by decide), hj 1 _ rfl (by decide), hj 2 _ rfl (by decide), hj 3 _ rfl (by decide), hj 4 _ rfl (by decide), hj 5 _ rfl (by decide)⟩
theorem setCells_heap (b : Nat) : ∀ (vs : List Value) (o : Nat) (w : World) (k : Nat), k ≠ b → (w.setCells b o vs).heap[k]? = w.heap[k]?
  | [], _, _, _, _ => rfl
  | _v :: r, o, _w, k, h => (setCells_heap b r (o + 1) _ k h).trans (Below.heap_setCell _ _ _ _ h)
theorem setCells_size (b : Nat) : ∀ (vs : List Value) (o : Nat) (w : World), (w.setCells b o vs).heap.size = w.heap.size
  | [], _, _ => rfl
  | v :: r, o, w => (setCells_size b r (o + 1) _).trans (by simp [World.setCell])
theorem setCells_row (b : Nat) : ∀ (vs : List Value) (o : Nat) (w : World) {c : Array Value} {t : TypeId}, w.heap[b]? = some (.cells c t (0, 0)) → ∃ c', (w.setCells b o vs).heap[b]? = some (.cells c' t (0, 0))
  | [], _, _, c, _, h => ⟨c, h⟩
  | v :: r, o, _w, _c, _t, h => setCells_row b r (o + 1) _ (heap_set h v)
theorem Ext.setCells {w W : World} (h : Ext w W) {b : Nat} (hb : w.heap.size ≤ b) : ∀ (vs : List Value) (o : Nat) (V : World), Ext w V → Ext w (V.setCells b o vs)
  | [], _, _, hV => hV
  | v :: r, o, _V, hV => Ext.setCells h hb r (o + 1) _ (hV.setCell hb v)
theorem AtG.same {V : World} {g k : Nat} {x y : Gr} (h : AtG V g k y) : AtG (V.setCells g (k * 6) (Gr.cells x)) g k x := by
  obtain ⟨h0, h1, h2, h3, h4, h5⟩ := h
  have hs : ∀ j, j < (Gr.cells x).length → (V.cell? ⟨g, k * 6 + j, none⟩).isSome = true := fun j hj => by
    have hj : j < 6 := hj
    obtain rfl | rfl | rfl | rfl | rfl | rfl : j = 0 ∨ j = 1 ∨ j = 2 ∨ j = 3 ∨ j = 4 ∨ j = 5 := by omega
    · rw [show k * 6 + 0 = k * 6 from rfl, h0]; rfl
    · rw [h1]; rfl
    · rw [h2]; rfl
    · rw [h3]; rfl
    · rw [h4]; rfl
    · rw [h5]; rfl
  have hin := fun j hj => World.cell?_setCells_in g (Gr.cells x) (k * 6) V hs j hj
  exact ⟨hin 0 (show 0 < 6 by decide), hin 1 (show 1 < 6 by decide), hin 2 (show 2 < 6 by decide), hin 3 (show 3 < 6 by decide), hin 4 (show 4 < 6 by decide), hin 5 (show 5 < 6 by decide)⟩
theorem AtG.out {V : World} {g i o : Nat} {vs : List Value} {x : Gr} (h : AtG V g i x) (ho : i * 6 + 6 ≤ o ∨ o + vs.length ≤ i * 6) : AtG (V.setCells g o vs) g i x := by
  obtain ⟨h0, h1, h2, h3, h4, h5⟩ := h
  have k : ∀ j, j < 6 → (V.setCells g o vs).cell? ⟨g, i * 6 + j, none⟩ = V.cell? ⟨g, i * 6 + j, none⟩ := fun j hj => World.cell?_setCells_out g vs o V ⟨g, i * 6 + j, none⟩ (fun _ _ => by show i * 6 + j < o ∨ o + vs.length ≤ i * 6 + j; omega)
  exact ⟨(k 0 (by decide)).trans h0, (k 1 (by decide)).trans h1, (k 2 (by decide)).trans h2, (k 3 (by decide)).trans h3, (k 4 (by decide)).trans h4, (k 5 (by decide)).trans h5⟩
theorem run_clear_some {P : Program} (w : World) (t e ty : TypeId) (z : Value) (ht : P.underlying t = some (.slice e)) (hv : ∀ w, (zeroValue e).run P w = .ok z w) (h1 : ∀ i, i < z.cells.size → (z.cells[i]!).oneCell' = true) (hz : 0 < z.cells.size) (b o n c : Nat) (hn : 0 < n)
    (hc : ∀ j, j < n * z.cells.size → (w.cell? ⟨b, o + j, none⟩).isSome = true) (hf : ∀ j, w.frozen? ⟨b, o + j, none⟩ = false) :
    ∃ vs : List Value, vs.length = n * z.cells.size ∧ (Builtin.clear_ #[t] ty #[.slice (some ⟨b, o, none⟩) n c]).run P w = .ok (.tuple #[]) (w.setCells b o vs) := by
  have hlen : (Builtin.zeroCells z.cells n).toList.length = n * z.cells.size := by simp [Builtin.zeroCells]
  refine ⟨(Builtin.zeroCells z.cells n).toList, hlen, ?_⟩
  have hst := run_storeCells_cells (P := P) b o (Builtin.zeroCells z.cells n).toList 0 w (by rw [hlen]; simpa using hc) (fun j _ => by simpa using hf j) (by
    intro v hv'
    simp only [Builtin.zeroCells, Array.toList_map, List.mem_map] at hv'
    obtain ⟨i, _, rfl⟩ := hv'
    exact h1 _ (Nat.mod_lt _ hz))
  simp only [Nat.add_zero] at hst
  obtain ⟨m, rfl⟩ : ∃ m, n = m + 1 := ⟨n - 1, by omega⟩
  simp [Builtin.clear_, run_underlying ht, hv, hst]

set_option maxRecDepth 8000 in
set_option maxHeartbeats 1000000 in
theorem idx_gr (bc bn : Nat) (P : Gr → Bool) (L : List Gr) (u : Value) (w : World) (hl : Row Gr.cells 6 w u L)
    (HOK : Hid (∀ W i, Ext w W → i < L.length → Calls Tryd.prog 66 #[(L.getD i default).v, P0 bc, P0 bn] W fun e W' => e = .returned (.bool (P (L.getD i default))) ∧ Ext W W')) :
    Calls Tryd.prog 96 #[u, .func (.func 66) #[] #[P0 bc, P0 bn]] w fun e w' => e = .returned (.int .i64 (firstAt (fun i => P (L.getD i default)) L.length)) ∧ Ext w w' := by
  obtain ⟨p, c, rfl, hc, hlen, hat⟩ := hl.gr_all
  have HA := hide hat
  clear hl hat
  have H1 := hide (fun k hk => firstAt_at (P := fun i => P (L.getD i default)) (n := L.length) (k := k) hk)
  have H2 := hide (firstAt_none (P := fun i => P (L.getD i default)) (n := L.length))
  generalize firstAt (fun i => P (L.getD i default)) L.length = res at H1 H2 ⊢
  generalize L.length = n at *
  generalize hf : L.getD = f at *
  clear hf
  go_enter Tryd.func96, Tryd.ntmps96
  go_wp2_with fail
  go_loopw [8] (fun x wr => ∃ i : Nat, i ≤ n ∧ x = .int .i64 i ∧ Hid (∀ j, j < i → P (f j default) = false) ∧ Ext w wr) (fun x _ => n - (intOf x).toNat)
  case atStart => exact ⟨0, by omega, rfl, fun j hj => by omega, Ext.refl _⟩
  case round =>
    obtain ⟨i, hi, rfl, HJ, hE⟩ := hrel
    by_cases hlt : i < n
    · obtain ⟨b, o, rfl, hb, hat⟩ := HA.out (by omega)
      obtain ⟨x0, x1, x2, x3, x4, x5⟩ := hat i hlt
      replace x0 := x0 _ hE
      replace x1 := x1 _ hE
      replace x2 := x2 _ hE
      replace x3 := x3 _ hE
      replace x4 := x4 _ hE
      replace x5 := x5 _ hE
      clear hat
      have HF := hide (H1.out i hlt HJ.out)
      have HN : Hid (P (f i default) = false → ∀ j, j < i + 1 → P (f j default) = false) := fun h j hj => by
        by_cases e : j = i
        · subst e; exact h
        · exact HJ.out j (by omega)
      have HC2 := hide (HOK.out wr i hE hlt)
      generalize P (f i default) = r at HF HN HC2
      generalize f i default = x at x0 x1 x2 x3 x4 x5 HC2
      go_wp2_with fail
      refine HC2.out.mono ?_
      rintro e w2 ⟨rfl, hw2⟩
      have hE2 := hE.trans hw2
      clear hw2 x0 x1 x2 x3 x4 x5
      cases r
      · have HR := hide (HN.out rfl)
        go_wp2_with fail
        go_roundw
        case rel => exact ⟨i + 1, by omega, by go_num, HR.out, hE2⟩
        case measure => simp [intOf]; omega
      · have HR := hide (HF.out rfl)
        go_wp2_with fail
        go_ret
        exact ⟨ret_int HR.out.symm, hE2⟩
    · obtain rfl : i = n := by omega
      have HR := hide (H2.out HJ.out)
      go_wp2_with fail
      go_ret
      exact ⟨ret_int HR.out.symm, hE⟩
/-- What is kept of the first j. -/
def keptG (P : Gr → Bool) (L : List Gr) (j : Nat) : List Gr := (L.take j).filter fun x => !P x
theorem keptG_yes {P : Gr → Bool} {L : List Gr} {j : Nat} (h : j < L.length) (hp : P (L.getD j default) = false) : keptG P L (j + 1) = keptG P L j ++ [L.getD j default] := by
  rw [List.getD_eq_getElem?_getD, List.getElem?_eq_getElem h] at hp ⊢
  unfold keptG; rw [List.take_succ_eq_append_getElem h, List.filter_append]; simp at hp; simp [hp]
theorem keptG_no {P : Gr → Bool} {L : List Gr} {j : Nat} (h : j < L.length) (hp : P (L.getD j default) = true) : keptG P L (j + 1) = keptG P L j := by
  rw [List.getD_eq_getElem?_getD, List.getElem?_eq_getElem h] at hp
  unfold keptG; rw [List.take_succ_eq_append_getElem h, List.filter_append]; simp at hp; simp [hp]
theorem keptG_all {P : Gr → Bool} {L : List Gr} {j : Nat} (hj : j ≤ L.length) (h : ∀ i, i < j → P (L.getD i default) = false) : keptG P L j = L.take j := by
  unfold keptG
  rw [List.filter_eq_self]
  intro x hx
  obtain ⟨i, hi, rfl⟩ := List.mem_iff_getElem.1 hx
  have h1 : i < j := by rw [List.length_take] at hi; omega
  have := h i h1
  rw [List.getD_eq_getElem?_getD, List.getElem?_eq_getElem (show i < L.length by omega)] at this
  simp at this
  simp [this]
theorem keptG_full (P : Gr → Bool) (L : List Gr) : keptG P L L.length = L.filter fun x => !P x := by unfold keptG; rw [List.take_of_length_le (Nat.le_refl _)]
theorem Row.of_atG {V : World} {g c : Nat} {M : List Gr} (h : ∀ i, i < M.length → AtG V g i (M.getD i default)) (hg : g < V.heap.size) (hc : M.length ≤ c) (hc2 : c ≤ 9223372036854775807) (hl : M.length ≤ 17592186044416) : Row Gr.cells 6 V (.slice (some ⟨g, 0, none⟩) M.length c) M := by
  refine ⟨_, _, rfl, hc, ⟨hc2, hl⟩, fun _ => ⟨g, 0, rfl, hg, fun i x hx j u hu => ?_⟩⟩
  have hi : i < M.length := by
    rcases Nat.lt_or_ge i M.length with h1 | h1
    · exact h1
    · rw [List.getElem?_eq_none h1] at hx; cases hx
  have hA := h i hi
  rw [List.getD_eq_getElem?_getD, hx] at hA
  obtain ⟨h0, h1, h2, h3, h4, h5⟩ := hA
  rw [Nat.zero_add]
  match j, hu with
  | 0, hu => simp at hu; subst hu; exact h0
  | 1, hu => simp at hu; subst hu; exact h1
  | 2, hu => simp at hu; subst hu; exact h2
  | 3, hu => simp at hu; subst hu; exact h3
  | 4, hu => simp at hu; subst hu; exact h4
  | 5, hu => simp at hu; subst hu; exact h5
  | _ + 6, hu => simp at hu

theorem exists_first {P : Nat → Bool} : ∀ {n : Nat}, (¬ ∀ i, i < n → P i = false) → ∃ k, k < n ∧ P k = true ∧ ∀ j, j < k → P j = false
  | 0, h => absurd (fun i hi => absurd hi (Nat.not_lt_zero _)) h
  | n + 1, h => by
    by_cases h1 : ∀ i, i < n → P i = false
    · refine ⟨n, Nat.lt_succ_self _, ?_, h1⟩
      cases hp : P n with
      | true => rfl
      | false =>
        exact absurd (fun i hi => by
          rcases Nat.lt_or_ge i n with h2 | h2
          · exact h1 i h2
          · rw [show i = n by omega]; exact hp) h
    · obtain ⟨k, hk, h2⟩ := exists_first h1
      exact ⟨k, by omega, h2⟩
theorem graph_zero (w : World) : (zeroValue 70).run Tryd.prog w = .ok (Gr.v default) w := by kernel_rfl
set_option maxRecDepth 16000 in
set_option maxHeartbeats 2000000 in
theorem delete_gr (bc bn : Nat) (P : Gr → Bool) (L : List Gr) (u : Value) (w0 w : World) (base : Nat) (hE0 : Ext w0 w) (hb : w0.heap.size ≤ base) (ho : Own Gr.cells 6 w base 70 u L) (hL : L.length ≤ 1000000)
    (HOK : Hid (∀ W i, Ext w0 W → i < L.length → Calls Tryd.prog 66 #[(L.getD i default).v, P0 bc, P0 bn] W fun e W' => e = .returned (.bool (P (L.getD i default))) ∧ Ext W W')) :
    Calls Tryd.prog 65 #[u, .func (.func 66) #[] #[P0 bc, P0 bn]] w fun e w' => (∃ v, e = .returned v ∧ Row Gr.cells 6 w' v (L.filter fun x => !P x)) ∧ Ext w0 w' := by
  have HI := hide (idx_gr bc bn P L u w (ho.row (by omega)) (fun W i hW hi => HOK.out W i (hE0.trans hW) hi))
  have HROW := hide (ho.row (by omega))
  have HFN := hide (firstAt_none (P := fun i => P (L.getD i default)) (n := L.length))
  by_cases hnone : ∀ i, i < L.length → P (L.getD i default) = false
  · have hres := HFN.out hnone
    have hall := keptG_all (Nat.le_refl _) hnone
    rw [keptG_full, List.take_of_length_le (Nat.le_refl _)] at hall
    rw [hres] at HI
    rw [hall]
    obtain ⟨q, c, rfl⟩ := ho.sl
    have HE0 := hide hE0
    clear hres hall hnone ho HFN HOK hE0
    go_enter Tryd.func65, Tryd.ntmps65
    go_wp2_with fail
    refine HI.out.mono ?_
    rintro e w1 ⟨rfl, hE1⟩
    go_wp2_with fail
    go_ret
    exact ⟨⟨_, rfl, HROW.out.ext hE1⟩, HE0.out.trans hE1⟩
  obtain ⟨k0, hk0, hpk, hpj⟩ := exists_first hnone
  have hres : firstAt (fun i => P (L.getD i default)) L.length = k0 := firstAt_at (P := fun i => P (L.getD i default)) (n := L.length) (k := k0) hk0 hpj hpk
  rw [hres] at HI
  have HK0 : Hid (keptG P L (k0 + 1) = L.take k0) := (keptG_no hk0 hpk).trans (keptG_all (by omega) hpj)
  have HYES := hide (fun j => keptG_yes (P := P) (L := L) (j := j))
  have HNO := hide (fun j => keptG_no (P := P) (L := L) (j := j))
  have HFULL := hide (keptG_full P L)
  obtain ⟨g, c, rfl, hbg, hgz, hlc, hcm⟩ : ∃ g c, u = .slice (some ⟨g, 0, none⟩) L.length c ∧ base ≤ g ∧ g < w.heap.size ∧ L.length ≤ c ∧ c ≤ 9223372036854775807 := by
    rcases ho.form with ⟨_, h⟩ | h
    · rw [h] at hk0; exact absurd hk0 (Nat.not_lt_zero _)
    · exact h
  obtain ⟨cur, hcur⟩ : ∃ cur, w.heap[g]? = some (.cells cur 70 (0, 0)) := by
    rcases ho.2.2 with ⟨h, _⟩ | ⟨g', cap, cur, h1, h2, h3, h4⟩
    · cases h
    · injection h1 with h1; injection h1 with h1; injection h1 with h1; subst h1; exact ⟨cur, h3⟩
  have HAT := hide ho.atG
  have HCUR : Hid (∃ cur, w.heap[g]? = some (.cells cur 70 (0, 0))) := ⟨cur, hcur⟩
  have HE0 := hide hE0
  have hgw : w0.heap.size ≤ g := by omega
  clear hres hnone ho HFN HROW hE0 hpk hpj hcur
  have HLEN : Hid (∀ j, (keptG P L j).length ≤ j) := fun j => by
    unfold keptG; exact Nat.le_trans (List.length_filter_le _ _) (by rw [List.length_take]; omega)
  generalize (L.filter fun x => !P x) = res at HFULL ⊢
  generalize keptG P L = kp at HK0 HYES HNO HFULL HLEN
  have HTK : Hid ((L.take k0).length = k0) := by show _ = _; rw [List.length_take, Nat.min_eq_left (by omega)]
  have HTG : Hid (∀ i, i < k0 → (L.take k0).getD i default = L.getD i default) := fun i hi => by
    rw [List.getD_eq_getElem?_getD, List.getElem?_take_of_lt hi, List.getD_eq_getElem?_getD]
  generalize hn : L.length = n at *
  have hk1 : (k0 : Int) ≠ -1 := by omega
  have hdk : ((k0 : Int) == -1) = false := by simp
  clear hk1
  have HN := hide hn
  clear hn
  go_enter Tryd.func65, Tryd.ntmps65
  go_wp2_with fail
  refine HI.out.mono ?_
  rintro e w1 ⟨rfl, hE1⟩
  have HST : Hid (Ext w0 w1 ∧ (∃ cur, w1.heap[g]? = some (.cells cur 70 (0, 0))) ∧ ∀ i, i < n → AtG w1 g i (L.getD i default)) := by
    obtain ⟨cur, hcur⟩ := HCUR.out
    exact ⟨HE0.out.trans hE1, ⟨cur, (hE1.b.block _ hgz).trans hcur⟩, fun i hi => (HAT.out i hi).of_block (hE1.b.block _ hgz)⟩
  have hgz1 : g < w1.heap.size := Nat.lt_of_lt_of_le hgz hE1.size
  clear HAT HCUR hE1
  go_wp2_with fail
  clear hdk
  go_loopw [5, 6] (fun a b V => ∃ k j : Nat, k < j ∧ j ≤ n ∧ a = .int .i64 k ∧ b = .int .i64 j ∧ Hid (Ext w0 V ∧ (∃ cur, V.heap[g]? = some (.cells cur 70 (0, 0))) ∧ (kp j).length = k ∧ (∀ i, i < k → AtG V g i ((kp j).getD i default)) ∧ (∀ i, i < n → ∃ z, AtG V g i z) ∧ ∀ i, j ≤ i → i < n → AtG V g i (L.getD i default)) ∧ g < V.heap.size) (fun _ b _ => n - (intOf b).toNat)
  case atStart =>
    obtain ⟨h1, h2, h3⟩ := HST.out
    exact ⟨k0, k0 + 1, by omega, by omega, rfl, by go_num, ⟨h1, h2, by rw [HK0.out]; exact HTK.out, fun i hi => by rw [HK0.out, HTG.out i hi]; exact h3 i (by omega), fun i hi => ⟨_, h3 i hi⟩, fun i _ hi => h3 i hi⟩, hgz1⟩
  case round =>
    clear HST
    obtain ⟨k, j, hkj, hj, rfl, rfl, HI, hgV⟩ := hrel
    by_cases hlt : j < n
    · obtain ⟨hE, ⟨cur, hcur⟩, hlen, hlo, hsome, hhi⟩ := HI.out
      obtain ⟨x0, x1, x2, x3, x4, x5⟩ := hhi j (Nat.le_refl _) hlt
      have HEV := hide hE
      have HCALL := hide (fun W (hW : Ext w0 W) => HOK.out W j hW hlt)
      have HYJ := hide (HYES.out j (by have := HN.out; omega))
      have HNJ := hide (HNO.out j (by have := HN.out; omega))
      clear hE hcur hlen hlo hhi hsome
      generalize hgj : L.getD j default = y at x0 x1 x2 x3 x4 x5 HCALL HYJ HNJ
      have HGJ := hide hgj
      clear hgj
      go_wp2_with fail
      obtain ⟨w8, hw8⟩ : ∃ w8, wr.alloc (.cells (Gr.cells y).toArray 70) = w8 := ⟨_, rfl⟩
      have hb8 : GrBox w8 wr.heap.size y := by rw [← hw8]; exact heap_alloc_new wr _
      have hE8 : Ext wr w8 := by rw [← hw8]; exact (Ext.refl _).alloc _
      rw [hw8]
      refine (HCALL.out w8 (HEV.out.trans hE8)).mono ?_
      clear hw8 x0 x1 x2 x3 x4 x5
      rintro e w9 ⟨rfl, hE9⟩
      have hE89 := hE8.trans hE9
      have hb9 : GrBox w9 wr.heap.size y := (hE9.b.block _ (lt_of_heap hb8)).trans hb8
      have hne8 : g ≠ wr.heap.size := by omega
      have HI9 : Hid (Ext w0 w9 ∧ (∃ cur, w9.heap[g]? = some (.cells cur 70 (0, 0))) ∧ (kp j).length = k ∧ (∀ i, i < k → AtG w9 g i ((kp j).getD i default)) ∧ (∀ i, i < n → ∃ z, AtG w9 g i z) ∧ ∀ i, j ≤ i → i < n → AtG w9 g i (L.getD i default)) := by
        obtain ⟨h1, ⟨cur, h2⟩, h3, h4, h5, h6⟩ := HI.out
        have hbl := hE89.b.block _ hgV
        exact ⟨h1.trans hE89, ⟨cur, hbl.trans h2⟩, h3, fun i hi => (h4 i hi).of_block hbl, fun i hi => by obtain ⟨z, hz⟩ := h5 i hi; exact ⟨z, hz.of_block hbl⟩, fun i h7 hi => (h6 i h7 hi).of_block hbl⟩
      have hgV9 : g < w9.heap.size := Nat.lt_of_lt_of_le hgV hE89.size
      clear hE8 hE9 hE89 hb8 HI HEV hgV
      generalize wr.heap.size = g8 at hb9 hne8 ⊢
      cases hpy : P y with
      | true =>
        have HS := hide (HNJ.out hpy)
        clear hpy HYJ HNJ
        go_wp2_with fail
        go_roundw
        case rel => exact ⟨k, j + 1, by omega, by omega, rfl, by go_num, by
          obtain ⟨h1, h2, h3, h4, h5, h6⟩ := HI9.out
          exact ⟨h1, h2, by rw [HS.out]; exact h3, fun i hi => by rw [HS.out]; exact h4 i hi, h5, fun i h7 hi => h6 i (by omega) hi⟩, hgV9⟩
        case measure => simp [intOf]; omega
      | false =>
        have HS := hide (HYJ.out hpy)
        clear hpy HYJ HNJ
        obtain ⟨h1, ⟨cur, h2⟩, h3, h4, h5, h6⟩ := HI9.out
        obtain ⟨z, z0, z1, z2, z3, z4, z5⟩ := h5 k (by omega)
        have f0 := frozen_of (j := k * 6) h2
        have f1 := frozen_of (j := k * 6 + 1) h2
        have f2 := frozen_of (j := k * 6 + 2) h2
        have f3 := frozen_of (j := k * 6 + 3) h2
        have f4 := frozen_of (j := k * 6 + 4) h2
        have f5 := frozen_of (j := k * 6 + 5) h2
        obtain ⟨y0, y1, y2, y3, y4, y5, hz8⟩ := hb9.cells
        have HB9 := hide hb9
        clear h1 h2 h3 h4 h5 h6 hb9
        have hkn : (k : Int) < (n : Int) := by omega
        go_upto_region 10 with fail
        obtain ⟨W1, hW1⟩ : ∃ W1, w9.setCells g (k * 6) (Gr.cells y) = W1 := ⟨_, rfl⟩
        have hW1' := hW1
        unfold Gr.cells at hW1'
        simp only [World.setCells] at hW1'
        rw [hW1']
        clear hW1'
        have HZ : Hid (AtG w9 g k z) := ⟨z0, z1, z2, z3, z4, z5⟩
        clear f0 f1 f2 f3 f4 f5 z0 z1 z2 z3 z4 z5 y0 y1 y2 y3 y4 y5 hz8 HB9
        have HI1 : Hid (Ext w0 W1 ∧ (∃ cur, W1.heap[g]? = some (.cells cur 70 (0, 0))) ∧ (kp (j + 1)).length = k + 1 ∧ (∀ i, i < k + 1 → AtG W1 g i ((kp (j + 1)).getD i default)) ∧ (∀ i, i < n → ∃ z, AtG W1 g i z) ∧ ∀ i, j + 1 ≤ i → i < n → AtG W1 g i (L.getD i default)) := by
          obtain ⟨h1, ⟨cur, h2⟩, h3, h4, h5, h6⟩ := HI9.out
          have hsame : AtG W1 g k y := by rw [← hW1]; exact HZ.out.same
          have hout : ∀ {i : Nat} {x : Gr}, i ≠ k → AtG w9 g i x → AtG W1 g i x := fun hi h => by rw [← hW1]; exact h.out (by show _ ∨ _ + 6 ≤ _; omega)
          refine ⟨by rw [← hW1]; exact Ext.setCells h1 hgw _ _ _ h1, by rw [← hW1]; exact setCells_row _ _ _ _ h2, by rw [HS.out, List.length_append, h3]; rfl, fun i hi => ?_, fun i hi => ?_, fun i h7 hi => hout (by omega) (h6 i (by omega) hi)⟩
          · rw [HS.out, List.getD_eq_getElem?_getD]
            rcases Nat.lt_or_ge i k with h8 | h8
            · rw [List.getElem?_append_left (by omega), ← List.getD_eq_getElem?_getD]
              exact hout (by omega) (h4 i h8)
            · obtain rfl : i = k := by omega
              rw [List.getElem?_append_right (by omega), h3, Nat.sub_self]
              exact hsame
          · by_cases hik : i = k
            · rw [hik]; exact ⟨_, hsame⟩
            · obtain ⟨z, hz⟩ := h5 i hi
              exact ⟨z, hout hik hz⟩
        have hgV1 : g < W1.heap.size := by rw [← hW1, setCells_size]; exact hgV9
        clear hW1 HZ HI9
        go_wp2_with fail
        go_roundw
        case rel => exact ⟨k + 1, j + 1, by omega, by omega, by go_num, by go_num, HI1.out, hgV1⟩
        case measure => simp [intOf]; omega
    · obtain rfl : j = n := by omega
      have hkj' : k < j := hkj
      obtain ⟨vs, hvl, hcl⟩ : ∃ vs : List Value, vs.length = (j - k) * 6 ∧ ∀ ty, (Builtin.clear_ #[54] ty #[.slice (some ⟨g, k * 6, none⟩) (j - k) (c - k)]).run Tryd.prog wr = .ok (.tuple #[]) (wr.setCells g (k * 6) vs) := by
        obtain ⟨h1, ⟨cur, h2⟩, h3, h4, h5, h6⟩ := HI.out
        obtain ⟨vs, hv, h⟩ := run_clear_some (P := Tryd.prog) wr 54 70 0 (Gr.v default) Tryd.underlying54 graph_zero (fun i hi => by
          have hi : i < 6 := hi
          obtain rfl | rfl | rfl | rfl | rfl | rfl : i = 0 ∨ i = 1 ∨ i = 2 ∨ i = 3 ∨ i = 4 ∨ i = 5 := by omega
          all_goals rfl) (by show 0 < 6; decide) g (k * 6) (j - k) (c - k) (by omega) (fun t ht => by
            have ht : t < (j - k) * 6 := ht
            obtain ⟨z, z0, z1, z2, z3, z4, z5⟩ := h5 (k + t / 6) (by omega)
            have e : k * 6 + t = (k + t / 6) * 6 + t % 6 := by omega
            rw [e]
            have hm : t % 6 < 6 := Nat.mod_lt _ (by decide)
            obtain h | h | h | h | h | h : t % 6 = 0 ∨ t % 6 = 1 ∨ t % 6 = 2 ∨ t % 6 = 3 ∨ t % 6 = 4 ∨ t % 6 = 5 := by omega
            all_goals rw [h]
            · rw [Nat.add_zero, z0]; rfl
            · rw [z1]; rfl
            · rw [z2]; rfl
            · rw [z3]; rfl
            · rw [z4]; rfl
            · rw [z5]; rfl) (fun t => frozen_of h2)
        exact ⟨vs, hv, fun ty => h⟩
      have HVL := hide hvl
      clear hvl
      go_wp2_with fail
      go_ret
      obtain ⟨h1, ⟨cur, h2⟩, h3, h4, h5, h6⟩ := HI.out
      rw [HFULL.out] at h3 h4
      have hrow := Row.of_atG (V := wr.setCells g (k * 6) vs) (g := g) (c := c) (M := res) (fun i hi => (h4 i (by omega)).out (by omega)) (by rw [setCells_size]; exact hgV) (by omega) hcm (by omega)
      rw [h3] at hrow
      exact ⟨⟨_, rfl, hrow⟩, Ext.setCells h1 hgw _ _ _ h1⟩
end Go.Proofs.YthpccmmdkbjjhaaDoor
