/-
  The program's list of words (adversary.Words).
  Conditions: as each theorem states.
-/
import Derived.Test.YtmkmgimmlohamaaClone
namespace Go.Proofs.Ytmkmgimmlohamaa
open Go.RowKit
attribute [local go_sem] Oper.semAt_some

/-- A row of rounds outside block g. -/
def RowA (g : Nat) (W : World) (v : Value) (xs : List Rd) : Prop := RowE 43 Rd.cells 7 W v xs ∧ ∀ (a : Addr) (n c : Nat), v = .slice (some a) n c → a.block ≠ g
/-- Words in rows outside block g. -/
def CollA (g : Nat) (W : World) (base : Nat) (u : Value) (ws : List (List Rd)) : Prop :=
  ∃ vs : List Value, vs.length = ws.length ∧ Own one 1 W base 27 u vs ∧ ∀ (i : Nat) (v : Value) (xs : List Rd), vs[i]? = some v → ws[i]? = some xs → RowA g W v xs
theorem RowA.of {g : Nat} {W W' : World} {v : Value} {xs : List Rd} (h : RowA g W v xs) (hs : W.heap.size ≤ W'.heap.size) (hb : ∀ k cs fr, W.heap[k]? = some (.cells cs 43 fr) → k ≠ g → W'.heap[k]? = W.heap[k]?) : RowA g W' v xs := by
  have key : ∀ (a : Addr) (n c : Nat), v = .slice (some a) n c → W'.heap[a.block]? = W.heap[a.block]? := fun a n c hv => by
    obtain ⟨cs, fr, hh⟩ := h.1.2 a n c hv
    exact hb _ _ _ hh (h.2 a n c hv)
  refine ⟨⟨h.1.1.of_block hs key, fun a n c hv => ?_⟩, h.2⟩
  obtain ⟨cs, fr, hh⟩ := h.1.2 a n c hv
  exact ⟨cs, fr, (key a n c hv).trans hh⟩
theorem CollA.of {g : Nat} {W W' : World} {base : Nat} {u : Value} {ws : List (List Rd)} (h : CollA g W base u ws) (hs : W.heap.size ≤ W'.heap.size) (hu : ∀ k, u.ownBlock = some k → W'.heap[k]? = W.heap[k]?)
    (hb : ∀ k cs fr, W.heap[k]? = some (.cells cs 43 fr) → k ≠ g → W'.heap[k]? = W.heap[k]?) : CollA g W' base u ws := by
  obtain ⟨vs, h1, h2, h3⟩ := h
  exact ⟨vs, h1, h2.of_block hu, fun i v xs hv hx => (h3 i v xs hv hx).of hs hb⟩
theorem CollA.typed {g : Nat} {W : World} {base : Nat} {u : Value} {ws : List (List Rd)} (h : CollA g W base u ws) : ∀ k, u.ownBlock = some k → ∃ cur fr, W.heap[k]? = some (.cells cur 27 fr) := by
  obtain ⟨vs, h1, h2, h3⟩ := h
  exact h2.typed
theorem CollA.ext {g : Nat} {W W' : World} {base : Nat} {u : Value} {ws : List (List Rd)} (h : CollA g W base u ws) (hE : Ext W W') : CollA g W' base u ws :=
  h.of hE.size (fun k hk => by obtain ⟨_, _, hh⟩ := h.typed k hk; exact hE.b.block _ (lt_of_heap hh)) (fun k _ _ hh _ => hE.b.block _ (lt_of_heap hh))
theorem CollA.coll {g : Nat} {W : World} {base : Nat} {u : Value} {ws : List (List Rd)} (h : CollA g W base u ws) : Coll 27 43 Rd.cells 7 W base u ws := by
  obtain ⟨vs, h1, h2, h3⟩ := h
  exact ⟨vs, h1, h2, fun i v xs hv hx => (h3 i v xs hv hx).1⟩
theorem CollA.ge {g : Nat} {W : World} {base : Nat} {u : Value} {ws : List (List Rd)} (h : CollA g W base u ws) : ∀ k, u.ownBlock = some k → base ≤ k := by
  obtain ⟨vs, h1, h2, h3⟩ := h
  exact h2.block_ge
theorem CollA.slice {g : Nat} {W : World} {base : Nat} {u : Value} {ws : List (List Rd)} (h : CollA g W base u ws) : ∃ q n c, u = .slice q n c := by
  rcases h.coll.form with ⟨h, _⟩ | ⟨g, c, h, _⟩
  · exact ⟨_, _, _, h⟩
  · exact ⟨_, _, _, h⟩
/-- One word more. -/
theorem wpList_pushA {P : Program} {ops : Array Oper} {rest : List Oper} {o : Oper} {a : Act} {w : World} {Q : Exit → Act → World → Prop} (hgd : o.guard = none) (s x : Operand) (t : TypeId)
    (ho : o.op = .call { callee := .builtin .append, args := #[s, x], argTypes := #[t, t] })
    (gb base : Nat) (ht : P.underlying t = some (.slice 27)) (hi : (P.info? 27).map (fun i => (i.zero, i.size, i.bytes)) = some (some (.slice none 0 0), 1, 24))
    (u : Value) (ws : List (List Rd)) (y : Value) (ys : List Rd) (g : Nat) (hs : a.eval s = u) (hown : CollA gb w base u ws) (hx : a.eval x = .slice (some ⟨g, 0, none⟩) 1 1)
    (hnew : ∀ j v, (one y)[j]? = some v → w.cell? ⟨g, j, none⟩ = some v) (hy : RowA gb w y ys) (hlen : ws.length ≤ 1000000000000) (hbase : base ≤ w.heap.size)
    (h : ∀ v' w', CollA gb w' base v' (ws ++ [ys]) → w.grownBy w' u.ownBlock → wpList P ops Q rest (a.put o.dst v') w') : wpList P ops Q (o :: rest) a w := by
  have hty := hown.typed
  obtain ⟨vs, h1, h2, h3⟩ := hown
  have hyc : y.oneCell' = true := by obtain ⟨⟨⟨p, c, rfl, _⟩, _⟩, _⟩ := hy; rfl
  refine wpList_append1 hgd s x t ho base 27 (.slice none 0 0) 1 24 ht hi rfl (by decide) u vs y g hs h2 hx hnew (by simpa using hyc) (by omega) (by decide) hbase ?_
  intro v' w' hown' hg hform
  have hkeep : ∀ k cs fr, w.heap[k]? = some (.cells cs 43 fr) → k ≠ gb → w'.heap[k]? = w.heap[k]? := fun k cs fr hh _ => hg.block k (lt_of_heap hh) (fun he => by
    obtain ⟨cur, fr', h'⟩ := hty k he.symm
    rw [hh] at h'
    injection h' with h'
    injection h' with _ h'
    exact absurd h' (by decide))
  refine h v' w' ⟨vs ++ [y], by simp [h1], hown', fun i v xs hv hx => ?_⟩ hg
  by_cases hlt : i < vs.length
  · rw [List.getElem?_append_left hlt] at hv
    rw [List.getElem?_append_left (by omega)] at hx
    exact (h3 i v xs hv hx).of hg.size hkeep
  · rw [List.getElem?_append_right (by omega)] at hv
    rw [List.getElem?_append_right (by omega)] at hx
    rcases Nat.eq_zero_or_pos (i - vs.length) with h0 | h0
    · rw [h0] at hv
      rw [show i - ws.length = 0 by omega] at hx
      simp only [List.getElem?_cons_zero, Option.some.injEq] at hv hx
      subst hv hx
      exact hy.of hg.size hkeep
    · rw [List.getElem?_eq_none (by simp; omega)] at hv; cases hv

/-- All blocks but g, bo and those of words lie as they lay. -/
structure FrT (g bo : Nat) (W W' : World) : Prop where
  size : W.heap.size ≤ W'.heap.size
  keep : ∀ (k : Nat) (cs : Array Value) (e : TypeId) (fr : Nat × Nat), W.heap[k]? = some (.cells cs e fr) → e ≠ 27 → k ≠ g → k ≠ bo → W'.heap[k]? = W.heap[k]?
theorem FrT.trans {g bo : Nat} {W W' W'' : World} (h : FrT g bo W W') (k : FrT g bo W' W'') : FrT g bo W W'' :=
  ⟨Nat.le_trans h.size k.size, fun i cs e fr h1 h2 h3 h4 => (k.keep i cs e fr ((h.keep i cs e fr h1 h2 h3 h4).trans h1) h2 h3 h4).trans (h.keep i cs e fr h1 h2 h3 h4)⟩
theorem FrT.of_ext {g bo : Nat} {W W' : World} (h : Ext W W') : FrT g bo W W' := ⟨h.size, fun _ _ _ _ h1 _ _ _ => h.b.block _ (lt_of_heap h1)⟩
theorem FrT.of_grown {g bo : Nat} {W W' : World} {row : Option Nat} (hg : W.grownBy W' row) (hr : ∀ k, row = some k → ∃ cur fr, W.heap[k]? = some (.cells cur 27 fr)) : FrT g bo W W' :=
  ⟨hg.size, fun k cs e fr h1 h2 _ _ => hg.block k (lt_of_heap h1) (fun he => by
    obtain ⟨cur, fr', h'⟩ := hr k he.symm
    rw [h1] at h'
    injection h' with h'
    injection h' with _ h'
    exact h2 h')⟩
theorem FrT.of_set {g bo : Nat} (W : World) (a : Addr) (v : Value) (h : a.block = bo) : FrT g bo W (W.setCell a v) := ⟨by simp, fun k _ _ _ _ _ _ h4 => Below.heap_setCell _ _ _ _ (by omega)⟩
theorem FrT.of_cells {g bo : Nat} (W : World) (o : Nat) (vs : List Value) : FrT g bo W (W.setCells g o vs) := ⟨by rw [size_setCells']; exact Nat.le_refl _, fun k _ _ _ h1 _ h3 _ => World.heap_setCells_other _ _ _ _ (lt_of_heap h1) h3⟩

theorem Ext.setCells {w : World} {g : Nat} (hg : w.heap.size ≤ g) : ∀ (vs : List Value) (o : Nat) {W : World}, Ext w W → Ext w (W.setCells g o vs)
  | [], _, _, h => h
  | v :: vs, o, _, h => Ext.setCells hg vs (o + 1) (h.setCell (by exact hg) v)

/-- What the closure has captured, and the memory of the adversary. -/
structure Env (A : Adv) (w : World) (p : Option Addr) (c K g bo bf B0 B1 : Nat) (W : World) : Prop where
  ext : Ext w W
  x0 : W.heap[B0]? = some (.cells #[.int .i64 A.n, .slice p A.L c] 24 (0, 0))
  x1 : Box W B1 3 (.int .i64 K)
  xf : Box W bf 98 (.func (.func 51) #[] #[.pointer (some ⟨B1, 0, none⟩), .pointer (some ⟨bo, 0, none⟩), .pointer (some ⟨B0, 0, none⟩), .pointer (some ⟨bf, 0, none⟩)])
  ne : B0 ≠ g ∧ B0 ≠ bo ∧ B1 ≠ g ∧ B1 ≠ bo ∧ bf ≠ g ∧ bf ≠ bo ∧ bo ≠ g ∧ w.heap.size ≤ g ∧ w.heap.size ≤ bo
theorem Env.keep {A : Adv} {w : World} {p : Option Addr} {c K g bo bf B0 B1 : Nat} {W W' : World} (h : Env A w p c K g bo bf B0 B1 W) (hE : Ext w W') (hF : FrT g bo W W') : Env A w p c K g bo bf B0 B1 W' := by
  obtain ⟨n1, n2, n3, n4, n5, n6, n7⟩ := h.ne
  exact ⟨hE, (hF.keep _ _ _ _ h.x0 (by decide) n1 n2).trans h.x0, (hF.keep _ _ _ _ h.x1 (by decide) n3 n4).trans h.x1, (hF.keep _ _ _ _ h.xf (by decide) n5 n6).trans h.xf, h.ne⟩

/-- What the closure leaves. -/
def FromP (_A : Adv) (w : World) (g bo K : Nat) (pre : List Rd) (W : World) (ws : List (List Rd)) (e : Ending) (W' : World) : Prop :=
  e = .returned (.tuple #[]) ∧ (∃ u', Box W' bo 61 u' ∧ CollA g W' w.heap.size u' ws) ∧ Buf W' g K pre ∧ FrT g bo W W' ∧ Ext w W'

/-- Behind i moves of state s. -/
def WInv (A : Adv) (w : World) (p : Option Addr) (c K g bo bf B0 B1 : Nat) (pre : List Rd) (W : World) (ws : List (List Rd)) (wr : World) : Prop :=
  ∃ u', Env A w p c K g bo bf B0 B1 wr ∧ Box wr bo 61 u' ∧ CollA g wr w.heap.size u' ws ∧ Buf wr g K pre ∧ FrT g bo W wr

/-- The loop's move, and the closure's own variable. -/
def WS (bf h : Nat) (F : Value) (n1 a1 b1 c1 d1 e1 f1 tn : Int) (V : World) : Prop := V.cell? ⟨bf, 0, none⟩ = some F ∧ V.cell? ⟨h, 0, none⟩ = some (.int .i64 n1) ∧ V.cell? ⟨h, 1, none⟩ = some (.int .i64 a1) ∧ V.cell? ⟨h, 2, none⟩ = some (.int .i64 b1) ∧
  V.cell? ⟨h, 3, none⟩ = some (.int .i64 c1) ∧ V.cell? ⟨h, 4, none⟩ = some (.int .i64 d1) ∧ V.cell? ⟨h, 5, none⟩ = some (.int .i64 e1) ∧ V.cell? ⟨h, 6, none⟩ = some (.int .i64 f1) ∧ V.cell? ⟨h, 7, none⟩ = some (.int .i64 tn)

set_option maxRecDepth 8000 in
set_option maxHeartbeats 4000000 in
theorem wfrom_any (A : Adv) (w : World) (p : Option Addr) (c K g bo bf B0 B1 : Nat) (hA : AdvRep w (.agg #[.int .i64 A.n, .slice p A.L c]) A) (h0 : achk A = 0) (hK : K ≤ 100) :
    ∀ (n s : Nat) (pre : List Rd) (W : World) (u : Value) (ws : List (List Rd)), pre.length + n = K → s < A.L → Env A w p c K g bo bf B0 B1 W → Box W bo 61 u → CollA g W w.heap.size u ws → Buf W g K pre → ws.length + (fromS A n s).length ≤ 4096 →
    Calls Try.prog 51 #[.int .i64 s, .slice (some ⟨g, 0, none⟩) pre.length K, .pointer (some ⟨B1, 0, none⟩), .pointer (some ⟨bo, 0, none⟩), .pointer (some ⟨B0, 0, none⟩), .pointer (some ⟨bf, 0, none⟩)] W
      (FromP A w g bo K pre W (ws ++ (fromS A n s).map (pre ++ ·))) := by
  intro n
  induction n with
  | zero =>
    intro s pre W u ws hd hs hEnv hbo hC hbuf hlen
    have HENV := hide hEnv
    have HBO := hide hbo
    have HC := hide hC
    have HBUF := hide hbuf
    have HROW := hide (hbuf.row hK (by omega))
    obtain ⟨hE, _, hb1, _, hne⟩ := hEnv
    have HE := hide hE
    have HNE := hide hne
    have hb1c := hb1.cell
    have hboc := hbo.cell
    have hbof := hbo.frozen
    obtain rfl : K = pre.length := by omega
    have hlt := hbo.lt
    have HLEN := hide hlen
    clear hE hbo hC hbuf hb1 hd hlen hs hne
    go_enter Try.func51, Try.ntmps51
    go_wp2_with fail
    refine wp_region_held 2 (fun V => V.cell? ⟨bo, 0, none⟩ = some u) (by kernel_rfl) (by kernel_rfl) ?_
    intro W1 hW1
    have hE1 : Ext W W1 := by rw [hW1]; exact (Ext.refl _).drew
    have h1c : W1.cell? ⟨bo, 0, none⟩ = some u := by rw [hW1]; exact hboc
    have hz1 : W1.heap.size = W.heap.size := by rw [hW1]; rfl
    have HH1 : Hid (∀ k : Nat, W1.heap[k]? = W.heap[k]?) := fun k => by rw [hW1]; rfl
    clear hW1
    refine ⟨h1c, ?_⟩
    simp only [List.take_succ_cons, List.take_zero, List.drop_succ_cons, List.drop_zero]
    refine wpHead_step u (by simp [Region.wanted]) (fun V hV => by go_simp) ?_
    refine wpHead_step (.slice (some ⟨g, 0, none⟩) pre.length pre.length) (by simp [Region.wanted]) (fun V hV => by go_simp) ?_
    simp only [Act.put, List.setIfInBounds_toArray, List.set_cons_zero, List.set_cons_succ]
    show wpTail _ _ _ _ _ _ _ _ _
    refine wpTail_keep (fun KK hKK => ?_)
    go_wp2_with fail
    refine (clone_any pre g pre.length W1 (HROW.out.ext hE1) (by omega)).mono ?_
    rintro e W2 ⟨y, rfl, hy, hE2⟩
    have h2c : W2.cell? ⟨bo, 0, none⟩ = some u := (hE2.cell (by show bo < _; omega)).trans h1c
    have hE12 := hE1.trans hE2
    have hyR : RowA g W2 y pre := ⟨hy.rowE (by omega), fun a n c hv => by
      have h1 := hy.block_ge a.block (by rw [hv]; rfl)
      have h2 := HBUF.out.lt
      omega⟩
    obtain ⟨q, cc, rfl, _⟩ := hyR.1.1
    have HY := hide hyR
    clear hy hyR
    go_wp2_with fail
    refine ⟨rfl, hKK _ _ h2c ?_⟩
    clear hKK KK
    refine wpTail_keep (fun KK hKK => ?_)
    go_wp2_with fail
    have h3c : (W2.alloc (.cells #[.slice q pre.length cc] 27)).cell? ⟨bo, 0, none⟩ = some u := by rw [cell_alloc_old _ (by show bo < _; have := hE2.size; omega)]; exact h2c
    refine ⟨rfl, hKK _ _ h3c ?_⟩
    clear hKK KK
    have HC3 := hide (HC.out.ext (hE12.alloc (.cells #[.slice q pre.length cc] 27)))
    have HB3 : Hid (Box (W2.alloc (.cells #[.slice q pre.length cc] 27)) bo 61 u) := ((hE12.alloc _).b.block _ hlt).trans HBO.out
    have HY3 : Hid (RowA g (W2.alloc (.cells #[.slice q pre.length cc] 27)) (.slice q pre.length cc) pre) :=
      HY.out.of (by simp) (fun k cs fr hh _ => Below.heap_alloc _ _ _ (lt_of_heap hh))
    have HEw := hide (HE.out.trans (hE12.alloc (.cells #[.slice q pre.length cc] 27)))
    have HX3 := hide (cell_new1 W2 (.slice q pre.length cc) 27)
    have HE3 := hide (hE12.alloc (.cells #[.slice q pre.length cc] 27))
    obtain ⟨g3, hg3⟩ : ∃ g3, W2.heap.size = g3 := ⟨_, rfl⟩
    obtain ⟨W3, hW3⟩ : ∃ W3, W2.alloc (.cells #[.slice q pre.length cc] 27) = W3 := ⟨_, rfl⟩
    rw [hW3] at HC3 HB3 HY3 HEw HX3 HE3 h3c ⊢
    rw [hg3] at HX3 ⊢
    clear hW3 hg3 h2c hE12 hE2 HY h1c hE1
    refine wpTail_keep (fun KK hKK => ?_)
    go_wp2_with (at_builtin; refine wpList_pushA rfl (.tmp 14) (.tmp 17) 61 rfl g w.heap.size Try.underlying61 rslice_info u ws (.slice q pre.length cc) pre g3 rfl HC3.out rfl HX3.out HY3.out (by have := HLEN.out; omega) HEw.out.size ?_; intro v' W4 hC4 hg4)
    obtain ⟨vq, vn, vc, rfl⟩ := hC4.slice
    have hb4 : Box W4 bo 61 u := (hg4.block _ HB3.out.lt (fun he => by
      obtain ⟨cur, fr, h'⟩ := HC3.out.typed _ he.symm
      have h2 := HB3.out
      unfold Box at h2
      rw [h2] at h'
      injection h' with h'
      injection h' with _ h'
      exact absurd h' (by decide))).trans HB3.out
    have h4c := hb4.cell
    have h4f := hb4.frozen
    refine ⟨rfl, hKK _ _ h4c ?_⟩
    clear hKK KK
    have HC4 := hide hC4
    have HB4 := hide hb4
    have HG4 := hide hg4
    clear hC4 hb4 hg4
    refine wpTail_free (by kernel_rfl) (fun KK hKK => ?_)
    go_wp2_with fail
    refine ⟨rfl, hKK _ _ ?_⟩
    clear hKK KK
    refine wpTail_nil ?_
    go_wp2_with fail
    obtain ⟨n1, n2, n3, n4, n5, n6, n7, n8, n9⟩ := HNE.out
    have hFr : FrT g bo W (W4.setCell ⟨bo, 0, none⟩ (.slice vq vn vc)) := ((FrT.of_ext HE3.out).trans (FrT.of_grown HG4.out HC3.out.typed)).trans (FrT.of_set _ _ _ rfl)
    have hgW := HBUF.out
    refine bodyPost_ret (results_none rfl _ _ _) rfl ⟨rfl, ⟨_, HB4.out.set, ?_⟩, ?_, hFr, ?_⟩
    · have e1 : (fromS A 0 s).map (pre ++ ·) = [pre] := by simp [fromS]
      rw [e1]
      exact HC4.out.of (by simp) (fun k hk => Below.heap_setCell _ _ _ _ (fun he => by
          obtain ⟨cur, fr, h'⟩ := HC4.out.typed k hk
          have h2 := HB4.out
          unfold Box at h2
          subst he
          rw [h2] at h'
          injection h' with h'
          injection h' with _ h'
          exact absurd h' (by decide)))
        (fun k cs fr hh _ => Below.heap_setCell _ _ _ _ (fun he => by
          have h2 := HB4.out
          unfold Box at h2
          subst he
          rw [h2] at hh
          injection hh with h'
          injection h' with _ h'
          exact absurd h' (by decide)))
    · refine hgW.of_block ?_
      obtain ⟨cur, hcur, _⟩ := hgW
      rw [Below.heap_setCell _ _ _ _ (Ne.symm n7), HG4.out.block _ (by have := HE3.out.size; have := lt_of_heap hcur; omega) (fun he => by
        obtain ⟨cur', fr, h'⟩ := HC3.out.typed _ he.symm
        rw [HE3.out.b.block _ (lt_of_heap hcur), hcur] at h'
        injection h' with h'
        injection h' with _ h'
        exact absurd h' (by decide))]
      exact HE3.out.b.block _ (lt_of_heap hcur)
    · exact ((HEw.out).grown HG4.out HC3.out.ge).setCell n9 _
  | succ n ih =>
    intro s pre W u ws hd hs hEnv hbo hC hbuf hlen
    have hW0 : WInv A w p c K g bo bf B0 B1 pre W (ws ++ (fromP A n s 0).map (pre ++ ·)) W := ⟨u, hEnv, hbo, by simpa [fromP] using hC, hbuf, FrT.of_ext (Ext.refl _)⟩
    have HW0 := hide hW0
    have HIH := hide ih
    obtain ⟨hE, hb0, hb1, _, hne⟩ := hEnv
    have HEW := hide hE
    have HNE := hide hne
    obtain ⟨b, o, rfl, hb, hAt⟩ := (by
      obtain ⟨p', c', hv, _, _, hat⟩ := hA.all_
      injection hv with hv
      injection hv with hv
      injection hv with _ hv
      injection hv with hv _
      injection hv with h1 _ h2
      subst h1 h2
      exact hat (by omega) : ∃ b o, p = some ⟨b, o, none⟩ ∧ b < w.heap.size ∧ ∀ s, s < A.L → ∃ q d, (∀ W, Ext w W → W.cell? ⟨b, o + s, none⟩ = some (.slice q (A.len s) d)) ∧ A.len s ≤ d ∧ A.len s ≤ 17592186044416 ∧
        Row Mv.cells 8 w (.slice q (A.len s) d) (A.st.getD s []) ∧ (0 < A.len s → ∃ b2 o2, q = some ⟨b2, o2, none⟩ ∧ b2 < w.heap.size ∧ ∀ i, i < A.len s → MvAt w b2 (o2 + i * 8) (A.mv s i)))
    obtain ⟨qs, ds, hcs, _, hls, _, hmv⟩ := hAt s hs
    have HMV := hide hmv
    have hcs1 := hcs W hE
    have HS := hide (sound_of (achk_zero h0).2.2.2.2.2.1)
    have hL2 := (achk_zero h0).2.2.2.1
    have b1c := hb1.cell
    have ha1 : W.cell? ⟨B0, 1, none⟩ = some (.slice (some ⟨b, o, none⟩) A.L c) := by rw [cell_of_row _ _ _ _ _ _ hb0]; rfl
    have hd0 : ((pre.length : Int) == (K : Int)) = false := by rw [beq_eq_false_iff_ne]; omega
    have HLEN := hide hlen
    have HD := hide hd
    have hsd : decide (s < A.L) = true := decide_eq_true hs
    clear hAt hmv hcs hW0 ih hE hb0 hb1 hbo hC hbuf hlen hd hne
    go_enter Try.func51, Try.ntmps51
    go_wp2_with fail
    go_loopw [25] (fun x wr => ∃ i : Nat, i ≤ A.len s ∧ x = .int .i64 i ∧ WInv A w (some ⟨b, o, none⟩) c K g bo bf B0 B1 pre W (ws ++ (fromP A n s i).map (pre ++ ·)) wr) (fun x _ => A.len s - (intOf x).toNat)
    case atStart => exact ⟨0, by omega, rfl, HW0.out⟩
    case round =>
      obtain ⟨i, hi, rfl, hI⟩ := hrel
      have HI := hide hI
      clear hI
      by_cases hlt : i < A.len s
      · obtain ⟨b4, o4, rfl, hb4, hmv⟩ := HMV.out (by omega)
        obtain ⟨x0, x1, x2, x3, x4, x5, x6, x7⟩ := hmv i hlt
        obtain ⟨ht0, ht1, _, _⟩ := HS.out s hs i hlt
        obtain ⟨u', hEnv, hbo, hC, hbuf, hFr⟩ := HI.out
        have HENV := hide hEnv
        have HBO := hide hbo
        have HC := hide hC
        have HBUF := hide hbuf
        have HFR := hide hFr
        have hEr := hEnv.ext
        have hbfc := hEnv.xf.cell
        have hbfl := hEnv.xf.lt
        have h0 := x0 _ hEr
        have h1 := x1 _ hEr
        have h2 := x2 _ hEr
        have h3 := x3 _ hEr
        have h4 := x4 _ hEr
        have h5 := x5 _ hEr
        have h6 := x6 _ hEr
        have h7 := x7 _ hEr
        have HPS := hide (fromP_succ A n s i)
        have HPL : Hid ((fromP A n s (i + 1)).length ≤ (fromS A (n + 1) s).length) := fromP_len_mono A n s hlt
        obtain ⟨⟨⟨⟨n1, a1, b1, c1, d1, e1⟩, f1⟩, t1⟩, hm⟩ : ∃ m, A.mv s i = m := ⟨_, rfl⟩
        rw [hm] at h0 h1 h2 h3 h4 h5 h6 h7 ht0 ht1 HPS
        dsimp only at h0 h1 h2 h3 h4 h5 h6 h7 ht0 ht1
        obtain ⟨tn, rfl⟩ := Int.eq_ofNat_of_zero_le ht0
        rw [Int.toNat_natCast] at HPS
        clear x0 x1 x2 x3 x4 x5 x6 x7 hm hmv hEnv hbo hC hbuf hFr HI HW0
        go_wp2_with fail
        obtain ⟨W1, hW1⟩ : ∃ W1, wr.alloc (.cells #[.int .i64 n1, .int .i64 a1, .int .i64 b1, .int .i64 c1, .int .i64 d1, .int .i64 e1, .int .i64 f1, .int .i64 tn] 101) = W1 := ⟨_, rfl⟩
        have hE1 : Ext wr W1 := by rw [← hW1]; exact (Ext.refl _).alloc _
        have hm1 : W1.heap[wr.heap.size]? = some (.cells #[.int .i64 n1, .int .i64 a1, .int .i64 b1, .int .i64 c1, .int .i64 d1, .int .i64 e1, .int .i64 f1, .int .i64 tn] 101 (0, 0)) := by rw [← hW1]; exact heap_alloc_new _ _
        rw [hW1]
        clear hW1 h0 h1 h2 h3 h4 h5 h6 h7
        refine wp_region_held 6 (WS bf wr.heap.size (.func (.func 51) #[] #[.pointer (some ⟨B1, 0, none⟩), .pointer (some ⟨bo, 0, none⟩), .pointer (some ⟨B0, 0, none⟩), .pointer (some ⟨bf, 0, none⟩)]) n1 a1 b1 c1 d1 e1 f1 tn) (by kernel_rfl) (by kernel_rfl) ?_
        intro W2 hW2
        have hE2 : Ext wr W2 := by rw [hW2]; exact hE1.drew
        have hm2 : W2.heap[wr.heap.size]? = some (.cells #[.int .i64 n1, .int .i64 a1, .int .i64 b1, .int .i64 c1, .int .i64 d1, .int .i64 e1, .int .i64 f1, .int .i64 tn] 101 (0, 0)) := by rw [hW2]; exact hm1
        clear hW2 hE1 hm1 W1
        have HS2 : Hid (∀ V : World, V.heap[wr.heap.size]? = W2.heap[wr.heap.size]? → V.heap[bf]? = W2.heap[bf]? → (WS bf wr.heap.size (.func (.func 51) #[] #[.pointer (some ⟨B1, 0, none⟩), .pointer (some ⟨bo, 0, none⟩), .pointer (some ⟨B0, 0, none⟩), .pointer (some ⟨bf, 0, none⟩)]) n1 a1 b1 c1 d1 e1 f1 tn) V) := fun V hv1 hv2 => by
          rw [hm2] at hv1
          refine ⟨?_, ?_, ?_, ?_, ?_, ?_, ?_, ?_, ?_⟩
          · rw [World.cell?_of_block (w := W2) (a := ⟨bf, 0, none⟩) hv2, hE2.cell (p := ⟨bf, 0, none⟩) hbfl]; exact hbfc
          all_goals (rw [cell_of_row _ _ _ _ _ _ hv1]; rfl)
        refine ⟨HS2.out _ rfl rfl, ?_⟩
        have HM2 := hide hm2
        clear hm2 hbfc
        simp only [List.take_succ_cons, List.take_zero, List.drop_succ_cons, List.drop_zero]
        refine wpHead_step (.func (.func 51) #[] #[.pointer (some ⟨B1, 0, none⟩), .pointer (some ⟨bo, 0, none⟩), .pointer (some ⟨B0, 0, none⟩), .pointer (some ⟨bf, 0, none⟩)]) (by simp [Region.wanted]) (fun V ⟨hV, _⟩ => by go_simp) ?_
        refine wpHead_step (.pointer (some ⟨wr.heap.size, 7, none⟩)) (by simp [Region.wanted]) (fun V _ => by go_simp) ?_
        refine wpHead_step (.int .i64 tn) (by simp [Region.wanted]) (fun V ⟨_, _, _, _, _, _, _, _, hV⟩ => by go_simp) ?_
        refine wpHead_step (.slice (some ⟨g, 0, none⟩) pre.length K) (by simp [Region.wanted]) (fun V _ => by go_simp) ?_
        refine wpHead_step (.pointer (some ⟨wr.heap.size, 0, none⟩)) (by simp [Region.wanted]) (fun V _ => by go_simp) ?_
        refine wpHead_step (.agg #[.int .i64 n1, .int .i64 a1, .int .i64 b1, .int .i64 c1, .int .i64 d1, .int .i64 e1, .int .i64 f1]) (by simp [Region.wanted]) (fun V ⟨_, v0, v1, v2, v3, v4, v5, v6, _⟩ => by go_simp) ?_
        simp only [Act.put, List.setIfInBounds_toArray, List.set_cons_zero, List.set_cons_succ]
        show wpTail _ _ _ _ _ _ _ _ _
        refine wpTail_keep (fun KK hKK => ?_)
        go_wp2_with fail
        have hE3 : Ext wr (W2.alloc (.cells #[.int .i64 n1, .int .i64 a1, .int .i64 b1, .int .i64 c1, .int .i64 d1, .int .i64 e1, .int .i64 f1] 43)) := hE2.alloc _
        have h3m : (W2.alloc (.cells #[.int .i64 n1, .int .i64 a1, .int .i64 b1, .int .i64 c1, .int .i64 d1, .int .i64 e1, .int .i64 f1] 43)).heap[wr.heap.size]? = W2.heap[wr.heap.size]? := Below.heap_alloc _ _ _ (lt_of_heap HM2.out)
        have h3f : (W2.alloc (.cells #[.int .i64 n1, .int .i64 a1, .int .i64 b1, .int .i64 c1, .int .i64 d1, .int .i64 e1, .int .i64 f1] 43)).heap[bf]? = W2.heap[bf]? := Below.heap_alloc _ _ _ (by have := hE2.size; omega)
        have h3n : ∀ j v, (Rd.cells ⟨⟨n1, a1, b1, c1, d1, e1⟩, f1⟩)[j]? = some v → (W2.alloc (.cells #[.int .i64 n1, .int .i64 a1, .int .i64 b1, .int .i64 c1, .int .i64 d1, .int .i64 e1, .int .i64 f1] 43)).cell? ((⟨W2.heap.size, 0, none⟩ : Addr).add j) = some v := fun j v hj => by
          rw [add_lit, cell_new, List.getElem?_toArray]; exact hj
        refine ⟨rfl, hKK _ _ (HS2.out _ h3m h3f) ?_⟩
        clear hKK KK
        have HM3 := hide (h3m.trans HM2.out)
        have H3N := hide h3n
        have HF3 := hide h3f
        have hg3l : wr.heap.size < (W2.alloc (.cells #[.int .i64 n1, .int .i64 a1, .int .i64 b1, .int .i64 c1, .int .i64 d1, .int .i64 e1, .int .i64 f1] 43)).heap.size := lt_of_heap HM3.out
        have HE3 := hide hE3
        obtain ⟨g3, hg3⟩ : ∃ g3, W2.heap.size = g3 := ⟨_, rfl⟩
        rw [hg3] at H3N ⊢
        obtain ⟨W3, hW3⟩ : ∃ W3, W2.alloc (.cells #[.int .i64 n1, .int .i64 a1, .int .i64 b1, .int .i64 c1, .int .i64 d1, .int .i64 e1, .int .i64 f1] 43) = W3 := ⟨_, rfl⟩
        rw [hW3] at H3N HM3 HE3 HF3 hg3l ⊢
        rw [hW3] at h3m
        have H3M := hide h3m
        have HBUF3 := hide (HBUF.out.of_block (W' := W3) (HE3.out.b.block _ HBUF.out.lt))
        have hpl : pre.length < K := by have := HD.out; omega
        have HSP := hide (HBUF3.out.cells_there hpl)
        clear hW3 hg3 h3m h3n h3f hE3 hE2
        refine wpTail_keep (fun KK hKK => ?_)
        go_wp2_with (at_builtin; refine wpList_append_room rfl (.tmp 32) (.tmp 35) 27 rfl 43 7 Try.underlying27 (by kernel_rfl) g 0 pre.length K rfl ⟨g3, 0, none⟩ 1 1 (Rd.cells ⟨⟨n1, a1, b1, c1, d1, e1⟩, f1⟩) rfl rfl H3N.out (rd_one _) (by omega) HSP.out ?_)
        have hF34 : FrT g bo W3 (W3.setCells g (pre.length * 7) (Rd.cells ⟨⟨n1, a1, b1, c1, d1, e1⟩, f1⟩)) := FrT.of_cells _ _ _
        obtain ⟨n1', n2', n3', n4', n5', n6', n7', n8', n9'⟩ := HNE.out
        have h4m : (W3.setCells g (pre.length * 7) (Rd.cells ⟨⟨n1, a1, b1, c1, d1, e1⟩, f1⟩)).heap[wr.heap.size]? = W2.heap[wr.heap.size]? :=
          (World.heap_setCells_other _ _ _ _ hg3l (by have := HBUF.out.lt; omega)).trans H3M.out
        have h4f : (W3.setCells g (pre.length * 7) (Rd.cells ⟨⟨n1, a1, b1, c1, d1, e1⟩, f1⟩)).heap[bf]? = W2.heap[bf]? :=
          (World.heap_setCells_other _ _ _ _ (by omega) n5').trans HF3.out
        refine ⟨rfl, hKK _ _ (HS2.out _ h4m h4f) ?_⟩
        clear hKK KK
        have hE4 : Ext w (W3.setCells g (pre.length * 7) (Rd.cells ⟨⟨n1, a1, b1, c1, d1, e1⟩, f1⟩)) := Ext.setCells n8' _ _ (HENV.out.ext.trans HE3.out)
        have hF4 : FrT g bo wr (W3.setCells g (pre.length * 7) (Rd.cells ⟨⟨n1, a1, b1, c1, d1, e1⟩, f1⟩)) := (FrT.of_ext HE3.out).trans hF34
        have hEnv4 := HENV.out.keep hE4 hF4
        have hbo4 : Box (W3.setCells g (pre.length * 7) (Rd.cells ⟨⟨n1, a1, b1, c1, d1, e1⟩, f1⟩)) bo 61 u' := (World.heap_setCells_other _ _ _ _ (by have := HBO.out.lt; omega) n7').trans ((HE3.out.b.block _ HBO.out.lt).trans HBO.out)
        have hC3 := HC.out.ext HE3.out
        have hC4 : CollA g (W3.setCells g (pre.length * 7) (Rd.cells ⟨⟨n1, a1, b1, c1, d1, e1⟩, f1⟩)) w.heap.size u' (ws ++ (fromP A n s i).map (pre ++ ·)) := hC3.of (by rw [size_setCells']; exact Nat.le_refl _) (fun k hk => by
            obtain ⟨cur, fr, h'⟩ := hC3.typed k hk
            refine World.heap_setCells_other _ _ _ _ (lt_of_heap h') (fun he => ?_)
            obtain ⟨cur', hcur, _⟩ := HBUF3.out
            subst he
            rw [hcur] at h'
            injection h' with h'
            injection h' with _ h'
            exact absurd h' (by decide)) (fun k cs fr hh hk => World.heap_setCells_other _ _ _ _ (lt_of_heap hh) hk)
        have hB4 := HBUF3.out.push ⟨⟨n1, a1, b1, c1, d1, e1⟩, f1⟩ hpl
        have hps := HPS.out
        have hlen4 : (ws ++ (fromP A n s i).map (pre ++ ·)).length + (fromS A n tn).length ≤ 4096 := by
          have h1 := HLEN.out
          have h2 := HPL.out
          rw [hps, List.length_append, List.length_map] at h2
          rw [List.length_append, List.length_map]
          omega
        have hcall := HIH.out tn (pre ++ [⟨⟨n1, a1, b1, c1, d1, e1⟩, f1⟩]) _ u' _ (by rw [List.length_append, List.length_singleton]; have := HD.out; omega) (by omega) hEnv4 hbo4 hC4 hB4 hlen4
        rw [List.length_append, List.length_singleton] at hcall
        have HCALL := hide hcall
        have HF4 := hide hF4
        clear hcall hlen4 hps hB4 hC4 hC3 hbo4 hEnv4 hF4 hE4 hF34
        obtain ⟨W4, hW4⟩ : ∃ W4, W3.setCells g (pre.length * 7) (Rd.cells ⟨⟨n1, a1, b1, c1, d1, e1⟩, f1⟩) = W4 := ⟨_, rfl⟩
        rw [hW4] at HCALL h4m h4f HF4 ⊢
        clear hW4
        have HG4 := hide (And.intro h4m h4f)
        clear h4m h4f
        refine wpTail_keep (fun KK hKK => ?_)
        go_wp2_with fail
        refine HCALL.out.mono ?_
        rintro e W5 ⟨rfl, ⟨u5, hbo5, hC5⟩, hB5, hF5, hE5⟩
        have h5m : W5.heap[wr.heap.size]? = W2.heap[wr.heap.size]? := (hF5.keep _ _ _ _ (HG4.out.1.trans HM2.out) (by decide) (by have := HBUF.out.lt; omega) (by have := HBO.out.lt; omega)).trans HG4.out.1
        have h5f : W5.heap[bf]? = W2.heap[bf]? := by
          have hxf := HENV.out.xf
          unfold Box at hxf
          have h3f := HF3.out
          have h4f := HG4.out.2
          have hx2 : W2.heap[bf]? = wr.heap[bf]? := by rw [← h3f]; exact HE3.out.b.block _ hbfl
          exact (hF5.keep _ _ _ _ (h4f.trans (hx2.trans hxf)) (by decide) n5' n6').trans h4f
        have HBO5 := hide hbo5
        have HC5 := hide hC5
        have HB5 := hide hB5
        have HF5 := hide hF5
        have HE5 := hide hE5
        have HG5 := hide (And.intro h5m h5f)
        clear hbo5 hC5 hB5 hF5 hE5 h5m h5f
        go_wp2_with fail
        refine ⟨rfl, hKK _ _ (HS2.out _ HG5.out.1 HG5.out.2) ?_⟩
        clear hKK KK
        refine wpTail_nil ?_
        go_wp2_with fail
        have e1 : (ws ++ (fromP A n s i).map (pre ++ ·)) ++ (fromS A n tn).map ((pre ++ [⟨⟨n1, a1, b1, c1, d1, e1⟩, f1⟩]) ++ ·) = ws ++ (fromP A n s (i + 1)).map (pre ++ ·) := by
          rw [HPS.out, List.map_append, List.map_map, List.append_assoc]
          congr 2
          exact List.map_congr_left fun x _ => by simp
        have hC6 := HC5.out
        rw [e1] at hC6
        have hF6 := (HF4.out).trans HF5.out
        refine ⟨⟨i + 1, by omega, by simp, u5, HENV.out.keep HE5.out hF6, HBO5.out, hC6, HB5.out.front, HFR.out.trans hF6⟩, by simp [intOf]; omega⟩
      · obtain rfl : i = A.len s := by omega
        obtain ⟨u', hEnv, hbo, hC, hbuf, hFr⟩ := HI.out
        have HC := hide hC
        have HBO := hide hbo
        have HBUF := hide hbuf
        have HFR := hide hFr
        have HEE := hide hEnv.ext
        obtain ⟨n1, n2, n3, n4, n5, n6, n7, n8, n9⟩ := hEnv.ne
        clear hEnv hbo hC hbuf hFr HI
        go_wp2_with fail
        refine bodyPost_ret (results_none rfl _ _ _) rfl ⟨rfl, ⟨_, HBO.out, HC.out⟩, HBUF.out, HFR.out, HEE.out⟩
end Go.Proofs.Ytmkmgimmlohamaa
