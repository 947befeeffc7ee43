/-
  Plain: the trimmed adversary; collections of lists of moves.
  Conditions: as each theorem states.
-/
import Derived.Test.YtdlhnpogddpmpaaGreatReachA
import Derived.Test.YtdlhnpogddpmpaaGreatSame2
namespace Go.Proofs.YtdlhnpogddpmpaaGreat
open Go.RowKit
attribute [local go_sem] Oper.semAt_some

/-- The new number of a reachable state. -/
noncomputable def numR (A : Adv) (s : Nat) : Nat := ((List.range s).filter (reachB A)).length
theorem numR_yes {A : Adv} {s : Nat} (h : reachB A s = true) : numR A (s + 1) = numR A s + 1 := by unfold numR; rw [List.range_succ, List.filter_append]; simp [h]
theorem numR_no {A : Adv} {s : Nat} (h : reachB A s = false) : numR A (s + 1) = numR A s := by unfold numR; rw [List.range_succ, List.filter_append]; simp [h]
theorem numR_le (A : Adv) (s : Nat) : numR A s ≤ s := by
  have := List.length_filter_le (reachB A) (List.range s)
  simpa [numR] using this
noncomputable def trimMv (A : Adv) (m : Mv) : Mv := ⟨m.r, numR A m.to.toNat⟩
noncomputable def trimSt (A : Adv) (n : Nat) : List (List Mv) := ((List.range n).filter (reachB A)).map fun s => (A.st.getD s []).map (trimMv A)
theorem trimSt_yes {A : Adv} {n : Nat} (h : reachB A n = true) : trimSt A (n + 1) = trimSt A n ++ [(A.st.getD n []).map (trimMv A)] := by unfold trimSt; rw [List.range_succ, List.filter_append]; simp [h]
theorem trimSt_no {A : Adv} {n : Nat} (h : reachB A n = false) : trimSt A (n + 1) = trimSt A n := by unfold trimSt; rw [List.range_succ, List.filter_append]; simp [h]
theorem trimSt_len (A : Adv) (n : Nat) : (trimSt A n).length ≤ n := by unfold trimSt; rw [List.length_map]; exact numR_le A n
/-- The adversary with its reachable states alone. -/
noncomputable def trimA (A : Adv) : Adv := ⟨A.n, trimSt A A.L⟩
/-- What Trim returns. -/
noncomputable def trimS (A : Adv) : Adv × Int := if achk A = 0 then (trimA A, 0) else (⟨0, []⟩, achk A)
theorem trim_snoc (A : Adv) (s i : Nat) (hi : i < A.len s) : ((A.st.getD s []).take (i + 1)).map (trimMv A) = ((A.st.getD s []).take i).map (trimMv A) ++ [trimMv A (A.mv s i)] := by
  have hi' : i < (A.st.getD s []).length := hi
  rw [List.take_succ_eq_append_getElem hi', List.map_append, List.map_singleton]
  congr 3
  exact (getElem_getD' hi').symm

theorem len_le_moves (A : Adv) {s : Nat} (hs : s < A.L) : A.len s ≤ movesN A := by
  rcases Nat.eq_zero_or_pos (A.len s) with h | h
  · omega
  · have h9 := pre_step A (s := s) (j := A.len s - 1) (by omega) (s' := A.L) (j' := 0) hs
    have e1 : A.pre s (A.len s - 1) = A.pre s 0 + (A.len s - 1) := rfl
    rw [pre_moves] at h9
    omega

theorem Coll.of {α : Type} {e1 e2 : TypeId} {enc : α → List Value} {size : Nat} {W W' : World} {base : Nat} {u : Value} {ws : List (List α)} (h : Coll e1 e2 enc size W base u ws) (hs : W.heap.size ≤ W'.heap.size)
    (hb : ∀ (k : Nat) (cs : Array Value) (e : TypeId) (fr : Nat × Nat), W.heap[k]? = some (.cells cs e fr) → (e = e1 ∨ e = e2) → W'.heap[k]? = W.heap[k]?) : Coll e1 e2 enc size W' base u ws := by
  have hty := h.typed
  obtain ⟨vs, h1, h2, h3⟩ := h
  refine ⟨vs, h1, h2.of_block fun k hk => ?_, fun i v xs hv hx => ?_⟩
  · obtain ⟨_, _, hh⟩ := hty k hk
    exact hb _ _ _ _ hh (.inl rfl)
  · have hr := h3 i v xs hv hx
    have key : ∀ (a : Addr) (n c : Nat), v = .slice (some a) n c → W'.heap[a.block]? = W.heap[a.block]? := fun a n c hv => by
      obtain ⟨cs, fr, hh⟩ := hr.2 a n c hv
      exact hb _ _ _ _ hh (.inr rfl)
    refine ⟨hr.1.of_block hs key, fun a n c hv => ?_⟩
    obtain ⟨cs, fr, hh⟩ := hr.2 a n c hv
    exact ⟨cs, fr, (key a n c hv).trans hh⟩
/-- A store to a block of another type. -/
theorem Coll.setOther {α : Type} {e1 e2 : TypeId} {enc : α → List Value} {size : Nat} {W : World} {base : Nat} {u : Value} {ws : List (List α)} (h : Coll e1 e2 enc size W base u ws) {b : Nat} {cs : Array Value} {e : TypeId} {fr : Nat × Nat}
    (hb : W.heap[b]? = some (.cells cs e fr)) (h1 : e ≠ e1) (h2 : e ≠ e2) (o : Nat) (x : Value) : Coll e1 e2 enc size (W.setCell ⟨b, o, none⟩ x) base u ws :=
  h.of (by simp) fun k cs' e' fr' hh he => Below.heap_setCell _ _ _ _ fun hk => by
    subst hk
    rw [hb] at hh
    injection hh with hh
    injection hh with _ hh
    subst hh
    rcases he with he | he
    · exact h1 he
    · exact h2 he
theorem Coll.slice {α : Type} {e1 e2 : TypeId} {enc : α → List Value} {size : Nat} {W : World} {base : Nat} {u : Value} {ws : List (List α)} (h : Coll e1 e2 enc size W base u ws) : ∃ q c, u = .slice q ws.length c := by
  rcases h.form with ⟨h, hn⟩ | ⟨g, c, h, _⟩
  · exact ⟨none, 0, by rw [h, hn]; rfl⟩
  · exact ⟨_, _, h⟩
theorem Coll.adv {W : World} {base : Nat} {u : Value} {A : Adv} (h : Coll 54 56 Mv.cells 8 W base u A.st) (hl : A.st.length ≤ 17592186044416) : AdvRep W (.agg #[.int .i64 A.n, u]) A := ⟨u, rfl, h.rows2 hl⟩
theorem mslice_info : (Tryz.prog.info? 54).map (fun i => (i.zero, i.size, i.bytes)) = some (some (.slice none 0 0), 1, 24) := by kernel_rfl
theorem move_info : (Tryz.prog.info? 56).map (fun i => (i.zero, i.size, i.bytes)) = some (some (Mv.v default), 8, 64) := by kernel_rfl
theorem mv_one (x : Mv) : ∀ u ∈ Mv.cells x, u.oneCell' = true := by intro u hu; simp only [List.mem_cons, List.not_mem_nil, or_false] at hu; rcases hu with rfl | rfl | rfl | rfl | rfl | rfl | rfl | rfl <;> rfl

/-- An adversary is returned that the call has made. -/
def AdvOut (w : World) (A : Adv) (u : Value) (w' : World) : Prop := ∃ q, u = .agg #[.int .i64 A.n, q] ∧ Coll 54 56 Mv.cells 8 w' w.heap.size q A.st
theorem AdvOut.rep {w w' : World} {A : Adv} {u : Value} (h : AdvOut w A u w') (hl : A.st.length ≤ 17592186044416) : AdvRep w' u A := by
  obtain ⟨q, rfl, h⟩ := h
  exact h.adv hl
theorem trimS_len {A : Adv} : (trimS A).1.st.length ≤ 256 := by
  unfold trimS
  by_cases h : achk A = 0
  · rw [if_pos h]
    have := trimSt_len A A.L
    have := (achk_zero h).2.2.2.1
    show (trimSt A A.L).length ≤ 256
    omega
  · rw [if_neg h]; simp

theorem mv_to {A : Adv} (h : achk A = 0) {s i : Nat} (hs : s < A.L) (hi : i < A.len s) : 0 ≤ (A.mv s i).to ∧ (A.mv s i).to < A.L := by
  have := sound_of (achk_zero h).2.2.2.2.2.1 s hs i hi
  exact ⟨this.1, this.2.1⟩
theorem numR_zero (A : Adv) : numR A 0 = 0 := by simp [numR]

theorem numR_all {T : Adv} (h : ∀ k, k < T.L → reachB T k = true) : ∀ k, k ≤ T.L → numR T k = k
  | 0, _ => numR_zero T
  | k + 1, hk => by rw [numR_yes (h k (by omega)), numR_all h k (by omega)]
theorem trim_same {T : Adv} (h : achk T = 0) (hr : ∀ k, k < T.L → reachB T k = true) : trimA T = T := by
  have hm : ∀ k, k < T.L → (T.st.getD k []).map (trimMv T) = T.st.getD k [] := fun k hk => by
    refine (List.map_congr_left (g := id) fun m hm => ?_).trans (List.map_id _)
    obtain ⟨i, hi, rfl⟩ := List.getElem_of_mem hm
    have ht := mv_to h hk (i := i) hi
    have e : T.mv k i = (T.st.getD k [])[i] := getElem_getD' hi
    rw [e] at ht
    show (⟨_, _⟩ : Mv) = _
    rw [numR_all hr _ (by omega), Int.toNat_of_nonneg ht.1]
    rfl
  have key : ∀ n, n ≤ T.L → trimSt T n = T.st.take n := fun n => by
    induction n with
    | zero => intro _; simp [trimSt]
    | succ n ih =>
      intro hn
      rw [trimSt_yes (hr n hn), ih (by omega), hm n hn, List.take_succ_eq_append_getElem (show n < T.st.length from hn), getElem_getD' (show n < T.st.length from hn)]
  have e : trimSt T T.L = T.st := by rw [key T.L (Nat.le_refl _)]; exact List.take_of_length_le (Nat.le_refl _)
  show (⟨T.n, trimSt T T.L⟩ : Adv) = T
  rw [e]
theorem reachP_mem {A : Adv} {x : Int} {n : Nat} (h : x ∈ reachP A n) : ∃ s : Nat, x = s ∧ s < n ∧ reachB A s = true := by
  simp only [reachP, List.mem_map, List.mem_filter, List.mem_range] at h
  obtain ⟨s, ⟨h1, h2⟩, rfl⟩ := h
  exact ⟨s, rfl, h1, h2⟩
theorem reachP_has {A : Adv} {s n : Nat} (h : s < n) (hr : reachB A s = true) : (s : Int) ∈ reachP A n := by
  simp only [reachP, List.mem_map, List.mem_filter, List.mem_range]
  exact ⟨s, ⟨h, hr⟩, rfl⟩

theorem reach_zero (A : Adv) : reachB A 0 = true := reachB_iff.2 .zero
theorem getD_map {α β : Type} (f : α → β) (l : List α) (k : Nat) (d : α) (e : β) (h : k < l.length) : (l.map f).getD k e = f (l.getD k d) := by
  rw [List.getD_eq_getElem?_getD, List.getElem?_map, List.getD_eq_getElem?_getD, List.getElem?_eq_getElem h]; rfl
end Go.Proofs.YtdlhnpogddpmpaaGreat
