/-
  Cases that a library's task is made of, apart from the blocks of the iterators.
  Conditions: none.
-/
import Derived.Test.YthkididgbaamcaaGreatDoorLibMany
import Derived.Test.YthkididgbaamcaaGreatDoorTkRep
namespace Go.Proofs.YthkididgbaamcaaGreatDoor
open Go.RowKit

/-- The case of an input: the outputs that agree. -/
def consC (n m : Nat) (li : List Int) : Cs := ⟨li, (vecs m n).filter (agreeB 1 li), []⟩
/-- Consensus. -/
def consT (n m : Nat) : Tk := ⟨n, m, m, (vecs m n).map (consC n m)⟩

theorem OffC.refl (B : Nat) (O : Nat → Prop) (W : World) : OffC B O W W := OffC.of_off (Off.refl O W)
theorem OffC.mono {B : Nat} {O O' : Nat → Prop} {W W' : World} (h : OffC B O W W') (hO : ∀ k, O k → O' k) : OffC B O' W W' :=
  ⟨h.os, h.tape, h.output, h.size, fun k h1 h2 h3 => h.low k h1 h2 fun h4 => h3 (hO k h4), fun k c e fr h1 h2 => h.cells k c e fr h1 fun h4 => h2 (hO k h4)⟩
section
variable {α : Type} {O O' : Nat → Prop} {enc : α → List Value} {size : Nat} {W W' : World} {base : Nat} {u : Value} {vs : List Value} {ws : List (List α)}
theorem CV.stay {ws : List (List Int)} (h : CV O 45 3 icells 1 W base u vs ws) (hS : Stay W W') : CV O 45 3 icells 1 W' base u vs ws :=
  ⟨h.len, h.own.of_block (fun k hk => by obtain ⟨_, _, hh⟩ := h.own.typed k hk; exact hS.kept _ _ _ _ hh (.inl rfl)), fun i v xs hv hx => (h.row i v xs hv hx).stay hS, h.no, h.nos⟩
end
/-- A case with no vectors for the calm, apart from O. -/
structure CaseN (O : Nat → Prop) (W : World) (t : Value × Value × Value) (c : Cs) : Prop where
  inp : RowE 3 icells 1 W t.1 c.inp
  inpO : ∀ a n k, t.1 = .slice (some a) n k → ¬ O a.block
  out : ∃ vs, CV O 45 3 icells 1 W 0 t.2.1 vs c.out
  calm : t.2.2 = .slice none 0 0 ∧ c.calm = []
theorem CaseN.at_ {O : Nat → Prop} {W : World} {t : Value × Value × Value} {c : Cs} (h : CaseN O W t c) : CaseAt W t c := by
  obtain ⟨vs, hv⟩ := h.out
  refine ⟨h.inp, hv.coll, ?_⟩
  rw [h.calm.1, h.calm.2]; exact Coll.nil _ _
theorem CaseN.stay {O : Nat → Prop} {W W' : World} {t : Value × Value × Value} {c : Cs} (h : CaseN O W t c) (hS : Stay W W') : CaseN O W' t c := by
  obtain ⟨vs, hv⟩ := h.out
  exact ⟨h.inp.stay hS, h.inpO, ⟨vs, hv.stay hS⟩, h.calm⟩
/-- A row apart from O keeps. -/
theorem RowE.offc {α : Type} {e : TypeId} {enc : α → List Value} {size : Nat} {B : Nat} {O O' : Nat → Prop} {W W' : World} {v : Value} {l : List α} (h : RowE e enc size W v l) (hO : ∀ a n k, v = .slice (some a) n k → ¬ O a.block) (hC : OffC B O W W') (hG : Grow O O' W W') :
    RowE e enc size W' v l ∧ ∀ a n k, v = .slice (some a) n k → ¬ O' a.block := by
  have key : ∀ (a : Addr) (n c : Nat), v = .slice (some a) n c → W'.heap[a.block]? = W.heap[a.block]? := fun a n c hva => by
    obtain ⟨cs, fr, hh⟩ := h.2 a n c hva
    rw [hC.cells _ _ _ _ hh (hO a n c hva), hh]
  refine ⟨⟨h.1.of_block hC.size key, fun a n c hva => ?_⟩, fun a n c hva hOa => ?_⟩
  · obtain ⟨cs, fr, hh⟩ := h.2 a n c hva
    exact ⟨cs, fr, (key a n c hva).trans hh⟩
  · obtain ⟨cs, fr, hh⟩ := h.2 a n c hva
    rcases (hG _ hOa).1 with h1 | h1
    · exact hO a n c hva h1
    · have := lt_of_heap hh; omega
theorem CaseN.offc {B : Nat} {O O' : Nat → Prop} {W W' : World} {t : Value × Value × Value} {c : Cs} (h : CaseN O W t c) (hC : OffC B O W W') (hG : Grow O O' W W') : CaseN O' W' t c := by
  obtain ⟨vs, hv⟩ := h.out
  obtain ⟨h1, h2⟩ := h.inp.offc h.inpO hC hG
  exact ⟨h1, h2, ⟨vs, hv.offc hC hG⟩, h.calm⟩
/-- A slice of cases of one's own, apart from O. -/
structure CL (O : Nat → Prop) (W : World) (base : Nat) (u : Value) (vs : List (Value × Value × Value)) (cs : List Cs) : Prop where
  len : vs.length = cs.length
  own : Own tenc 3 W base 60 u vs
  no : ∀ g, u.ownBlock = some g → ¬ O g
  at_ : ∀ (i : Nat) t c, vs[i]? = some t → cs[i]? = some c → CaseN O W t c
theorem CL.offc {B : Nat} {O O' : Nat → Prop} {W W' : World} {base : Nat} {u : Value} {vs : List (Value × Value × Value)} {cs : List Cs} (h : CL O W base u vs cs) (hC : OffC B O W W') (hG : Grow O O' W W') : CL O' W' base u vs cs := by
  refine ⟨h.len, h.own.offc hC (fun g cap hu => h.no g (by rw [hu]; rfl)), fun g hg hO => ?_, fun i t c ht hc => (h.at_ i t c ht hc).offc hC hG⟩
  rcases (hG g hO).1 with h1 | h1
  · exact h.no g hg h1
  · have := (h.own.2.lt g hg).2; omega
theorem CL.ext {O : Nat → Prop} {W W' : World} {base : Nat} {u : Value} {vs : List (Value × Value × Value)} {cs : List Cs} (h : CL O W base u vs cs) (hO : ∀ k, O k → k < W.heap.size) (hE : Ext W W') : CL O W' base u vs cs :=
  h.offc (OffC.of_off (B := 0) (Off.of_ext hE)) (Grow.same hO hE.size)
/-- Blocks of the cases, and of their slices, lie as they lay. -/
theorem CL.stay {O : Nat → Prop} {W W' : World} {base : Nat} {u : Value} {vs : List (Value × Value × Value)} {cs : List Cs} (h : CL O W base u vs cs) (hS : Stay W W') (hb : ∀ g, u.ownBlock = some g → W'.heap[g]? = W.heap[g]?) : CL O W' base u vs cs :=
  ⟨h.len, h.own.of_block hb, h.no, fun i t c ht hc => (h.at_ i t c ht hc).stay hS⟩
theorem CL.push {O : Nat → Prop} {W W' : World} {base : Nat} {u u' : Value} {vs : List (Value × Value × Value)} {cs : List Cs} {t : Value × Value × Value} {c : Cs} (h : CL O W base u vs cs) (hO : ∀ k, O k → k < W.heap.size)
    (hown : Own tenc 3 W' base 60 u' (vs ++ [t])) (hf : ∃ g' c', u' = .slice (some ⟨g', 0, none⟩) (vs.length + 1) c' ∧ (u.ownBlock = some g' ∨ g' = W.heap.size)) (hS : Stay W W') (ht : CaseN O W t c) : CL O W' base u' (vs ++ [t]) (cs ++ [c]) := by
  have hl := h.len
  refine ⟨by simp [hl], hown, fun g hg hOg => ?_, fun i y x hy hx => ?_⟩
  · obtain ⟨g', c', rfl, h2⟩ := hf
    obtain rfl : g' = g := by injection hg
    rcases h2 with h2 | h2
    · exact h.no _ h2 hOg
    · have := hO _ hOg; omega
  · by_cases hlt : i < vs.length
    · rw [List.getElem?_append_left hlt] at hy
      rw [List.getElem?_append_left (by omega)] at hx
      exact (h.at_ i y x hy hx).stay hS
    · rw [List.getElem?_append_right (by omega)] at hy
      rw [List.getElem?_append_right (by omega)] at hx
      rcases Nat.eq_zero_or_pos (i - vs.length) with h0 | h0
      · rw [h0] at hy
        rw [show i - cs.length = 0 by omega] at hx
        simp only [List.getElem?_cons_zero, Option.some.injEq] at hy hx
        subst hy; subst hx
        exact ht.stay hS
      · rw [List.getElem?_eq_none (by simp; omega)] at hy; cases hy
theorem CL.nil (O : Nat → Prop) (W : World) (base : Nat) : CL O W base (.slice none 0 0) [] [] := ⟨rfl, Own.nil _ _ _ (fun _ => rfl), fun g h => (by cases h), fun i t c h => by simp at h⟩
/-- The first i cases. -/
def consL (n m i : Nat) : List Cs := ((vecs m n).take i).map (consC n m)
theorem consL_succ {n m i : Nat} (h : i < m ^ n) : consL n m (i + 1) = consL n m i ++ [consC n m (dig m n i)] := by
  unfold consL; rw [List.take_add_one, vecs_at m n h]; simp
theorem consL_all (n m : Nat) : consL n m (m ^ n) = (consT n m).cs := by
  unfold consL; rw [List.take_of_length_le (by rw [vecs_len]; exact Nat.le_refl _)]; rfl
theorem consL_len {n m i : Nat} (h : i ≤ m ^ n) : (consL n m i).length = i := by
  unfold consL; rw [List.length_map, List.length_take, vecs_len]; omega
theorem CL.task {O : Nat → Prop} {W : World} {base : Nat} {u : Value} {vs : List (Value × Value × Value)} {n m : Nat} (h : CL O W base u vs (consT n m).cs) (hl : vs.length ≤ 17592186044416) : TkAt W (.agg #[.int .i64 n, .int .i64 m, .int .i64 m, u]) (consT n m) :=
  ⟨u, vs, rfl, h.len, h.own.row hl, fun i t c ht hc => (h.at_ i t c ht hc).at_⟩
/-- A task that was made from base on. -/
def TkNew (base : Nat) (w : World) (v : Value) (T : Tk) : Prop := ∃ u vs, v = .agg #[.int .i64 T.n, .int .i64 T.ins, .int .i64 T.outs, u] ∧ CL (fun _ => False) w base u vs T.cs ∧ T.cs.length ≤ 17592186044416
theorem TkNew.at_ {base : Nat} {w : World} {v : Value} {T : Tk} (h : TkNew base w v T) : TkAt w v T := by
  obtain ⟨u, vs, rfl, hc, hl⟩ := h
  exact ⟨u, vs, rfl, hc.len, hc.own.row (by rw [hc.len]; exact hl), fun i t c ht hc' => (hc.at_ i t c ht hc').at_⟩
theorem TkNew.store {base : Nat} {W : World} {v : Value} {T : Tk} (h : TkNew base W v T) {g : Nat} {u0 u1 u2 u3 : Value} (hT : TBox W g u0 u1 u2 u3) (hg : g < base) (v0 v1 v2 v3 : Value) :
    TkNew base ((((W.setCell ⟨g, 0, none⟩ v0).setCell ⟨g, 1, none⟩ v1).setCell ⟨g, 2, none⟩ v2).setCell ⟨g, 3, none⟩ v3) v T := by
  obtain ⟨u, vs, rfl, hc, hl⟩ := h
  refine ⟨u, vs, rfl, hc.stay (hT.stay4 _ _ _ _) (fun k hk => ?_), hl⟩
  have := (hc.own.2.lt k hk).1
  rw [Below.heap_setCell _ _ _ _ (show k ≠ g by omega), Below.heap_setCell _ _ _ _ (show k ≠ g by omega), Below.heap_setCell _ _ _ _ (show k ≠ g by omega), Below.heap_setCell _ _ _ _ (show k ≠ g by omega)]
theorem CL.mono {O : Nat → Prop} {W : World} {base base' : Nat} {u : Value} {vs : List (Value × Value × Value)} {cs : List Cs} (h : CL O W base u vs cs) (hb : base' ≤ base) : CL O W base' u vs cs := ⟨h.len, h.own.mono hb, h.no, h.at_⟩
end Go.Proofs.YthkididgbaamcaaGreatDoor
