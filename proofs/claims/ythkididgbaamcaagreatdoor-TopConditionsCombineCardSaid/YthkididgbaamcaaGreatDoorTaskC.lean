/-
  The three checks of a declaration (condition.Task$1, $2, $3); regions that draw their order, whose last operations are excused.
  Conditions: as each theorem states.
-/
import Derived.Test.YthkididgbaamcaaGreatDoorOutP
import Derived.Deep.CutRange
namespace Go.Proofs.YthkididgbaamcaaGreatDoor
open Go.RowKit
attribute [local go_sem] Oper.semAt_some

/-- A case; a task. -/
structure Cs where
  inp : List Int
  out : List (List Int)
  calm : List (List Int)
  deriving DecidableEq
structure Tk where
  n : Int
  ins : Int
  outs : Int
  cs : List Cs
  deriving DecidableEq
/-- A declaration, but for its name. -/
structure Dc where
  ins : Int
  outs : Int
  wh : Ex
  al : Ex
  ca : Ex
abbrev Tk.zero : Tk := ⟨0, 0, 0, []⟩
/-- The case of an input vector. -/
def caseS (N M : Nat) (d : Dc) (x : List Int) : Cs :=
  ⟨x, (vecs M N).filter (holdOut N x d.al), if absentE d.ca = true then [] else ((vecs M N).filter (holdOut N x d.al)).filter (holdOut N x d.ca)⟩
def caseBad (d : Dc) (c : Cs) : Bool := c.out.isEmpty || (!absentE d.ca && c.calm.isEmpty)
/-- What Task returns. -/
def taskS (n : Int) (d : Dc) : Tk × Int :=
  if sizesS n [d.ins, d.outs] ≠ 0 then (.zero, 2)
  else if givenS d.wh 1 ≠ 0 then (.zero, givenS d.wh 1)
  else if condS d.al 3 ≠ 0 then (.zero, condS d.al 3)
  else if givenS d.ca 3 ≠ 0 then (.zero, givenS d.ca 3)
  else if (inpS n d.ins d.wh).1 = [] then (.zero, 16)
  else if ((inpS n d.ins d.wh).1.any fun x => caseBad d (caseS n.toNat d.outs.toNat d x)) = true then (.zero, 16)
  else (⟨n, d.ins, d.outs, (inpS n d.ins d.wh).1.map (caseS n.toNat d.outs.toNat d)⟩, 0)

/-- A declaration's twelve cells, in a block of its own. -/
def DeclBox (w : World) (b : Nat) (nm : Value) (d : Dc) : Prop := ∃ p1 c1 p2 c2 p3 c3,
  w.heap[b]? = some (.cells #[nm, .int .i64 d.ins, .int .i64 d.outs, .int .i64 d.wh.op, .int .i64 d.wh.num, .slice p1 d.wh.args.length c1, .int .i64 d.al.op, .int .i64 d.al.num, .slice p2 d.al.args.length c2, .int .i64 d.ca.op, .int .i64 d.ca.num, .slice p3 d.ca.args.length c3] 38 (0, 0)) ∧
  ExAt w (.agg #[.int .i64 d.wh.op, .int .i64 d.wh.num, .slice p1 d.wh.args.length c1]) d.wh ∧ ExAt w (.agg #[.int .i64 d.al.op, .int .i64 d.al.num, .slice p2 d.al.args.length c2]) d.al ∧ ExAt w (.agg #[.int .i64 d.ca.op, .int .i64 d.ca.num, .slice p3 d.ca.args.length c3]) d.ca
theorem DeclBox.ext {w W : World} {b : Nat} {nm : Value} {d : Dc} (h : DeclBox w b nm d) (hE : Ext w W) : DeclBox W b nm d := by
  obtain ⟨p1, c1, p2, c2, p3, c3, h0, h1, h2, h3⟩ := h
  exact ⟨p1, c1, p2, c2, p3, c3, (hE.b.block _ (lt_of_heap h0)).trans h0, h1.ext hE, h2.ext hE, h3.ext hE⟩
theorem DeclBox.lt {w : World} {b : Nat} {nm : Value} {d : Dc} (h : DeclBox w b nm d) : b < w.heap.size := by
  obtain ⟨p1, c1, p2, c2, p3, c3, h0, _⟩ := h
  exact lt_of_heap h0
/-- The declaration as a value. -/
def DcAt (w : World) (v : Value) (d : Dc) : Prop := ∃ (s : ByteArray) (p1 : Option Addr) (c1 : Nat) (p2 : Option Addr) (c2 : Nat) (p3 : Option Addr) (c3 : Nat),
  v = .agg #[.string s, .int .i64 d.ins, .int .i64 d.outs, .int .i64 d.wh.op, .int .i64 d.wh.num, .slice p1 d.wh.args.length c1, .int .i64 d.al.op, .int .i64 d.al.num, .slice p2 d.al.args.length c2, .int .i64 d.ca.op, .int .i64 d.ca.num, .slice p3 d.ca.args.length c3] ∧
  ExAt w (.agg #[.int .i64 d.wh.op, .int .i64 d.wh.num, .slice p1 d.wh.args.length c1]) d.wh ∧ ExAt w (.agg #[.int .i64 d.al.op, .int .i64 d.al.num, .slice p2 d.al.args.length c2]) d.al ∧ ExAt w (.agg #[.int .i64 d.ca.op, .int .i64 d.ca.num, .slice p3 d.ca.args.length c3]) d.ca
theorem DcAt.ext {w W : World} {v : Value} {d : Dc} (h : DcAt w v d) (hE : Ext w W) : DcAt W v d := by
  obtain ⟨nm, p1, c1, p2, c2, p3, c3, h4, h1, h2, h3⟩ := h
  exact ⟨nm, p1, c1, p2, c2, p3, c3, h4, h1.ext hE, h2.ext hE, h3.ext hE⟩

/-- Blocks of numbers, and of slices of numbers, lie as they lay. -/
structure Stay (W W' : World) : Prop where
  size : W.heap.size ≤ W'.heap.size
  kept : ∀ (k : Nat) (cs : Array Value) (e : TypeId) (fr : Nat × Nat), W.heap[k]? = some (.cells cs e fr) → (e = 45 ∨ e = 3) → W'.heap[k]? = W.heap[k]?
theorem Stay.refl (W : World) : Stay W W := ⟨Nat.le_refl _, fun _ _ _ _ _ _ => rfl⟩
theorem Stay.of_ext {W W' : World} (h : Ext W W') : Stay W W' := ⟨h.size, fun k _cs _e _fr hh _ => h.b.block k (lt_of_heap hh)⟩
theorem Stay.trans {W W' W'' : World} (h : Stay W W') (k : Stay W' W'') : Stay W W'' :=
  ⟨Nat.le_trans h.size k.size, fun i cs e fr hh he => (k.kept i cs e fr ((h.kept i cs e fr hh he).trans hh) he).trans (h.kept i cs e fr hh he)⟩
theorem Stay.set {W : World} {b : Nat} {cs : Array Value} {e : TypeId} {fr : Nat × Nat} (hb : W.heap[b]? = some (.cells cs e fr)) (h1 : e ≠ 45) (h2 : e ≠ 3) (o : Nat) (x : Value) : Stay W (W.setCell ⟨b, o, none⟩ x) :=
  ⟨by simp, fun k cs' e' fr' hh he => Below.heap_setCell _ _ _ _ fun hk => by
    have hk : k = b := hk
    subst hk
    rw [hb] at hh
    injection hh with hh
    injection hh with _ hh
    subst hh
    rcases he with he | he
    · exact h1 he
    · exact h2 he⟩
/-- An append to a row of another type. -/
theorem Stay.grown {W W' : World} {row : Option Nat} {e' : TypeId} (hg : W.grownBy W' row) (hr : ∀ g, row = some g → ∃ cur fr, W.heap[g]? = some (.cells cur e' fr)) (h1 : e' ≠ 45) (h2 : e' ≠ 3) : Stay W W' :=
  ⟨hg.size, fun k cs e fr hh he => hg.block k (lt_of_heap hh) fun hk => by
    obtain ⟨cur, fr', hh'⟩ := hr k hk.symm
    rw [hh] at hh'
    injection hh' with hh'
    injection hh' with _ hh'
    subst hh'
    rcases he with he | he
    · exact h1 he
    · exact h2 he⟩
/-- An append to a row that is new. -/
theorem Stay.grownNew {W0 W W' : World} {row : Option Nat} (h : Stay W0 W) (hg : W.grownBy W' row) (hr : ∀ g, row = some g → W0.heap.size ≤ g) : Stay W0 W' :=
  ⟨Nat.le_trans h.size hg.size, fun k cs e fr hh he => (hg.block k (Nat.lt_of_lt_of_le (lt_of_heap hh) h.size) fun hk => by have := hr k hk.symm; have := lt_of_heap hh; omega).trans (h.kept k cs e fr hh he)⟩
theorem RowE.stay {W W' : World} {v : Value} {l : List Int} (h : RowE 3 icells 1 W v l) (hS : Stay W W') : RowE 3 icells 1 W' v l := by
  have key : ∀ (a : Addr) (n c : Nat), v = .slice (some a) n c → W'.heap[a.block]? = W.heap[a.block]? := fun a n c hva => by
    obtain ⟨cs, fr, hh⟩ := h.2 a n c hva
    exact hS.kept _ _ _ _ hh (.inr rfl)
  refine ⟨h.1.of_block hS.size key, fun a n c hva => ?_⟩
  obtain ⟨cs, fr, hh⟩ := h.2 a n c hva
  exact ⟨cs, fr, (key a n c hva).trans hh⟩
theorem Coll.stay {W W' : World} {base : Nat} {u : Value} {ws : List (List Int)} (h : Coll 45 3 icells 1 W base u ws) (hS : Stay W W') : Coll 45 3 icells 1 W' base u ws := by
  have hty := h.typed
  obtain ⟨vs, h1, h2, h3⟩ := h
  refine ⟨vs, h1, h2.of_block fun k hk => ?_, fun i v xs hv hx => (h3 i v xs hv hx).stay hS⟩
  obtain ⟨_, _, hh⟩ := hty k hk
  exact hS.kept _ _ _ _ hh (.inl rfl)
/-- A case's three slices. -/
abbrev tenc (t : Value × Value × Value) : List Value := [t.1, t.2.1, t.2.2]
structure CaseAt (w : World) (t : Value × Value × Value) (c : Cs) : Prop where
  inp : RowE 3 icells 1 w t.1 c.inp
  out : Coll 45 3 icells 1 w 0 t.2.1 c.out
  calm : Coll 45 3 icells 1 w 0 t.2.2 c.calm
theorem CaseAt.stay {W W' : World} {t : Value × Value × Value} {c : Cs} (h : CaseAt W t c) (hS : Stay W W') : CaseAt W' t c := ⟨h.inp.stay hS, h.out.stay hS, h.calm.stay hS⟩
/-- A task. -/
def TkAt (w : World) (v : Value) (T : Tk) : Prop := ∃ u vs, v = .agg #[.int .i64 T.n, .int .i64 T.ins, .int .i64 T.outs, u] ∧ vs.length = T.cs.length ∧ Row tenc 3 w u vs ∧ ∀ (i : Nat) t c, vs[i]? = some t → T.cs[i]? = some c → CaseAt w t c
theorem CaseAt.ext {W W' : World} {t : Value × Value × Value} {c : Cs} (h : CaseAt W t c) (hE : Ext W W') : CaseAt W' t c := h.stay (Stay.of_ext hE)
theorem TkAt.ext {w W : World} {v : Value} {T : Tk} (h : TkAt w v T) (hE : Ext w W) : TkAt W v T := by
  obtain ⟨u, vs, h1, h2, h3, h4⟩ := h
  exact ⟨u, vs, h1, h2, h3.ext hE, fun i t c ht hc => (h4 i t c ht hc).ext hE⟩
theorem TkAt.zero (w : World) : TkAt w (.agg #[.int .i64 0, .int .i64 0, .int .i64 0, .slice none 0 0]) .zero := ⟨_, [], rfl, rfl, Row.nil _ _ _, fun i t c h => by simp at h⟩
end Go.Proofs.YthkididgbaamcaaGreatDoor

namespace Go.Proofs.YthkididgbaamcaaGreatDoor
open Go.RowKit
attribute [local go_sem] Oper.semAt_some

theorem decl_cells {w : World} {b : Nat} {cs : Array Value} {t : TypeId} (h : w.heap[b]? = some (.cells cs t (0, 0))) : ∀ j, w.cell? ⟨b, j, none⟩ = cs[j]? := fun j => cell_of_row w b j _ _ _ h
theorem task1_any (d : Dc) (nm : Value) (s : Nat) (w : World) (hT : Tab w) (hb : DeclBox w s nm d) (hno : d.wh.nodes ≤ 100000) :
    Calls Tryz.prog 23 #[P0 s] w fun e w' => e = .returned (.int .i64 (givenS d.wh 1)) ∧ Ext w w' := by
  obtain ⟨p1, c1, p2, c2, p3, c3, h0, h1, h2, h3⟩ := hb
  have HH := hide (cinputs_any d.wh _ w hT h1 hno)
  have k3 : w.cell? ⟨s, 3, none⟩ = some (.int .i64 d.wh.op) := decl_cells h0 3
  have k4 : w.cell? ⟨s, 4, none⟩ = some (.int .i64 d.wh.num) := decl_cells h0 4
  have k5 : w.cell? ⟨s, 5, none⟩ = some (.slice p1 d.wh.args.length c1) := decl_cells h0 5
  have hz := lt_of_heap h0
  clear h0 h1 h2 h3 hT
  generalize givenS d.wh 1 = res at HH ⊢
  go_enter Tryz.func23, Tryz.ntmps23
  go_wp2_with fail
  refine HH.out.mono ?_
  rintro e' w1 ⟨rfl, hE1⟩
  go_wp2_with fail
  go_ret
  exact ⟨rfl, hE1⟩
theorem task2_any (d : Dc) (nm : Value) (s : Nat) (w : World) (hT : Tab w) (hb : DeclBox w s nm d) (hno : d.al.nodes ≤ 100000) :
    Calls Tryz.prog 25 #[P0 s] w fun e w' => e = .returned (.int .i64 (condS d.al 3)) ∧ Ext w w' := by
  obtain ⟨p1, c1, p2, c2, p3, c3, h0, h1, h2, h3⟩ := hb
  have HH := hide (callow_any d.al _ w hT h2 hno)
  have k3 : w.cell? ⟨s, 6, none⟩ = some (.int .i64 d.al.op) := decl_cells h0 6
  have k4 : w.cell? ⟨s, 7, none⟩ = some (.int .i64 d.al.num) := decl_cells h0 7
  have k5 : w.cell? ⟨s, 8, none⟩ = some (.slice p2 d.al.args.length c2) := decl_cells h0 8
  have hz := lt_of_heap h0
  clear h0 h1 h2 h3 hT
  generalize condS d.al 3 = res at HH ⊢
  go_enter Tryz.func25, Tryz.ntmps25
  go_wp2_with fail
  refine HH.out.mono ?_
  rintro e' w1 ⟨rfl, hE1⟩
  go_wp2_with fail
  go_ret
  exact ⟨rfl, hE1⟩
theorem task3_any (d : Dc) (nm : Value) (s : Nat) (w : World) (hT : Tab w) (hb : DeclBox w s nm d) (hno : d.ca.nodes ≤ 100000) :
    Calls Tryz.prog 27 #[P0 s] w fun e w' => e = .returned (.int .i64 (givenS d.ca 3)) ∧ Ext w w' := by
  obtain ⟨p1, c1, p2, c2, p3, c3, h0, h1, h2, h3⟩ := hb
  have HH := hide (coutputs_any d.ca _ w hT h3 hno)
  have k3 : w.cell? ⟨s, 9, none⟩ = some (.int .i64 d.ca.op) := decl_cells h0 9
  have k4 : w.cell? ⟨s, 10, none⟩ = some (.int .i64 d.ca.num) := decl_cells h0 10
  have k5 : w.cell? ⟨s, 11, none⟩ = some (.slice p3 d.ca.args.length c3) := decl_cells h0 11
  have hz := lt_of_heap h0
  clear h0 h1 h2 h3 hT
  generalize givenS d.ca 3 = res at HH ⊢
  go_enter Tryz.func27, Tryz.ntmps27
  go_wp2_with fail
  refine HH.out.mono ?_
  rintro e' w1 ⟨rfl, hE1⟩
  go_wp2_with fail
  go_ret
  exact ⟨rfl, hE1⟩

theorem results_agg4 {fn : Func} {a b : Tmp} (h : fn.results = #[.cell a 33, .tmp b]) (tmps : Array Value) (w : World) {g : Nat} {u0 u1 u2 u3 v : Value} (ha : tmps.getD a undef = .pointer (some ⟨g, 0, none⟩)) (hb : tmps.getD b undef = v)
    (h0 : w.cell? ⟨g, 0, none⟩ = some u0) (h1 : w.cell? ⟨g, 1, none⟩ = some u1) (h2 : w.cell? ⟨g, 2, none⟩ = some u2) (h3 : w.cell? ⟨g, 3, none⟩ = some u3) : (results fn tmps).run Tryz.prog w = .ok (.tuple #[.agg #[u0, u1, u2, u3], v]) w := by
  rw [Array.getD_eq_getD_getElem?] at ha hb
  simp [results, h, ha, hb, go_sem, h0, h1, h2, h3]
/-- A task's cells, in a block of its own. -/
def TBox (W : World) (g : Nat) (u0 u1 u2 u3 : Value) : Prop := W.heap[g]? = some (.cells #[u0, u1, u2, u3] 33 (0, 0))
theorem TBox.cells {W : World} {g : Nat} {u0 u1 u2 u3 : Value} (h : TBox W g u0 u1 u2 u3) : W.cell? ⟨g, 0, none⟩ = some u0 ∧ W.cell? ⟨g, 1, none⟩ = some u1 ∧ W.cell? ⟨g, 2, none⟩ = some u2 ∧ W.cell? ⟨g, 3, none⟩ = some u3 :=
  ⟨decl_cells h 0, decl_cells h 1, decl_cells h 2, decl_cells h 3⟩
theorem TBox.frozen {W : World} {g : Nat} {u0 u1 u2 u3 : Value} (h : TBox W g u0 u1 u2 u3) : W.frozen? ⟨g, 0, none⟩ = false ∧ W.frozen? ⟨g, 1, none⟩ = false ∧ W.frozen? ⟨g, 2, none⟩ = false ∧ W.frozen? ⟨g, 3, none⟩ = false :=
  ⟨frozen_of h, frozen_of h, frozen_of h, frozen_of h⟩
theorem TBox.ext {W W' : World} {g : Nat} {u0 u1 u2 u3 : Value} (h : TBox W g u0 u1 u2 u3) (hE : Ext W W') : TBox W' g u0 u1 u2 u3 := (hE.b.block _ (lt_of_heap h)).trans h
theorem TBox.store {W : World} {g : Nat} {u0 u1 u2 u3 : Value} (h : TBox W g u0 u1 u2 u3) (v0 v1 v2 v3 : Value) : TBox ((((W.setCell ⟨g, 0, none⟩ v0).setCell ⟨g, 1, none⟩ v1).setCell ⟨g, 2, none⟩ v2).setCell ⟨g, 3, none⟩ v3) g v0 v1 v2 v3 :=
  heap_set (heap_set (heap_set (heap_set h v0) v1) v2) v3
theorem TBox.set3 {W : World} {g : Nat} {u0 u1 u2 u3 : Value} (h : TBox W g u0 u1 u2 u3) (v : Value) : TBox (W.setCell ⟨g, 3, none⟩ v) g u0 u1 u2 v := heap_set h v
theorem ext_store4 {w W : World} (h : Ext w W) {g : Nat} (hg : w.heap.size ≤ g) (v0 v1 v2 v3 : Value) : Ext w ((((W.setCell ⟨g, 0, none⟩ v0).setCell ⟨g, 1, none⟩ v1).setCell ⟨g, 2, none⟩ v2).setCell ⟨g, 3, none⟩ v3) :=
  (((h.setCell hg v0).setCell hg v1).setCell hg v2).setCell hg v3
theorem TBox.stay4 {W : World} {g : Nat} {u0 u1 u2 u3 : Value} (h : TBox W g u0 u1 u2 u3) (v0 v1 v2 v3 : Value) : Stay W ((((W.setCell ⟨g, 0, none⟩ v0).setCell ⟨g, 1, none⟩ v1).setCell ⟨g, 2, none⟩ v2).setCell ⟨g, 3, none⟩ v3) :=
  (((Stay.set h (by decide) (by decide) 0 v0).trans (Stay.set (heap_set h v0) (by decide) (by decide) 1 v1)).trans (Stay.set (heap_set (heap_set h v0) v1) (by decide) (by decide) 2 v2)).trans (Stay.set (heap_set (heap_set (heap_set h v0) v1) v2) (by decide) (by decide) 3 v3)
theorem own_store4 {α : Type} {enc : α → List Value} {size : Nat} {W : World} {base g : Nat} {e : TypeId} {v : Value} {l : List α} (h : Own enc size W base e v l) (hg : g < base) (v0 v1 v2 v3 : Value) : Own enc size ((((W.setCell ⟨g, 0, none⟩ v0).setCell ⟨g, 1, none⟩ v1).setCell ⟨g, 2, none⟩ v2).setCell ⟨g, 3, none⟩ v3) base e v l :=
  (((h.set_other hg v0).set_other hg v1).set_other hg v2).set_other hg v3
/-- A case's cells, in a block of its own. -/
def CBox (W : World) (g : Nat) (u0 u1 u2 : Value) : Prop := W.heap[g]? = some (.cells #[u0, u1, u2] 60 (0, 0))
theorem CBox.cells {W : World} {g : Nat} {u0 u1 u2 : Value} (h : CBox W g u0 u1 u2) : W.cell? ⟨g, 0, none⟩ = some u0 ∧ W.cell? ⟨g, 1, none⟩ = some u1 ∧ W.cell? ⟨g, 2, none⟩ = some u2 ∧ W.frozen? ⟨g, 1, none⟩ = false ∧ W.frozen? ⟨g, 2, none⟩ = false ∧ g < W.heap.size :=
  ⟨decl_cells h 0, decl_cells h 1, decl_cells h 2, frozen_of h, frozen_of h, lt_of_heap h⟩
theorem CBox.ext {W W' : World} {g : Nat} {u0 u1 u2 : Value} (h : CBox W g u0 u1 u2) (hE : Ext W W') : CBox W' g u0 u1 u2 := (hE.b.block _ (lt_of_heap h)).trans h
theorem CBox.set1 {W : World} {g : Nat} {u0 u1 u2 : Value} (h : CBox W g u0 u1 u2) (v : Value) : CBox (W.setCell ⟨g, 1, none⟩ v) g u0 v u2 := heap_set h v
theorem CBox.set2 {W : World} {g : Nat} {u0 u1 u2 : Value} (h : CBox W g u0 u1 u2) (v : Value) : CBox (W.setCell ⟨g, 2, none⟩ v) g u0 u1 v := heap_set h v
theorem CBox.stay {W : World} {g : Nat} {u0 u1 u2 : Value} (h : CBox W g u0 u1 u2) (o : Nat) (v : Value) : Stay W (W.setCell ⟨g, o, none⟩ v) := Stay.set h (by decide) (by decide) o v
theorem TBox.stay3 {W : World} {g : Nat} {u0 u1 u2 u3 : Value} (h : TBox W g u0 u1 u2 u3) (v : Value) : Stay W (W.setCell ⟨g, 3, none⟩ v) := Stay.set h (by decide) (by decide) 3 v
theorem case_info : (Tryz.prog.info? 60).map (fun i => (i.zero, i.size, i.bytes)) = some (some (.agg #[.slice none 0 0, .slice none 0 0, .slice none 0 0]), 3, 72) := by kernel_rfl
theorem cell_new_t (w : World) (t : Value × Value × Value) : ∀ j u, (tenc t)[j]? = some u → (w.alloc (.cells #[t.1, t.2.1, t.2.2] 60)).cell? ⟨w.heap.size, j, none⟩ = some u := by
  intro j u h
  rw [cell_new]
  match j, h with
  | 0, h => simpa using h
  | 1, h => simpa using h
  | 2, h => simpa using h
  | _ + 3, h => simp at h
/-- The end of this function: the task's cells, and the error. -/
theorem leave_task {fn : Func} {R : Ending → World → Prop} {t : Act} {a b : Tmp} {W : World} {g : Nat} {u0 u1 u2 u3 v : Value} (h : fn.results = #[.cell a 33, .tmp b]) (hd : t.defers = []) (ha : t.tmps.getD a undef = .pointer (some ⟨g, 0, none⟩)) (hb : t.tmps.getD b undef = v) (hT : TBox W g u0 u1 u2 u3)
    (hR : R (.returned (.tuple #[.agg #[u0, u1, u2, u3], v])) W) : bodyPost Tryz.prog fn R .ret t W := by
  obtain ⟨h0, h1, h2, h3⟩ := hT.cells
  exact bodyPost_ret (results_agg4 h _ _ ha hb h0 h1 h2 h3) hd hR
end Go.Proofs.YthkididgbaamcaaGreatDoor
