/-
  The arguments, opened: graphs, rounds, moves as flat cells; slices of them; adversaries. The arguments read behind the call as before.
  Conditions: none.
-/
import Derived.Test.YtnhgdjiljjpgmaaRep
import Derived.Deep.Slices
import Derived.Deep.Fields
import Derived.SizedLaws
import Derived.OpenVars
import Derived.OpenShut
import Derived.ProofKit
namespace Go.Proofs.Ytnhgdjiljjpgmaa
open Go.ChangeShapes Go.WideShapes Go.ChangeAt Go.RowKit Go.Deep

set_option maxRecDepth 100000
theorem cells_gr : Try.prog.cellsOf 36 = 6 := by kernel_rfl
theorem cells_rd : Try.prog.cellsOf 38 = 7 := by kernel_rfl
theorem bytes_rd : 8 ≤ Try.prog.bytesOf 38 := of_decide_eq_true (by kernel_rfl)
theorem cells_mv : Try.prog.cellsOf 97 = 8 := by kernel_rfl
theorem bytes_mv : 8 ≤ Try.prog.bytesOf 97 := of_decide_eq_true (by kernel_rfl)
theorem cells_mvs : Try.prog.cellsOf 95 = 1 := by kernel_rfl
theorem bytes_mvs : 8 ≤ Try.prog.bytesOf 95 := of_decide_eq_true (by kernel_rfl)
theorem cells_adv : Try.prog.cellsOf 29 = 2 := by kernel_rfl
section
variable {H : Type} {enc : TypeId × Value → H} {w : World} {base : Nat} {spare : Nat → Bool} {held : Bool}

/-- Nothing in it is heavier than the reach. -/
def Light (t : TypeId) (d : DataW H) : Prop := ∀ n ∈ d.weights Try.prog t, n ≤ reachBytes
theorem Light.all {t : TypeId} : ∀ {ds : List (DataW H)}, (∀ n ∈ DataW.weightsAll Try.prog t ds, n ≤ reachBytes) → ∀ d ∈ ds, Light t d
  | [], _, d, hd => by cases hd
  | d :: ds, h, d', hd => by
    simp only [DataW.weightsAll, List.mem_append] at h
    rcases List.mem_cons.1 hd with rfl | hd
    · exact fun n hn => h n (.inl hn)
    · exact Light.all (fun n hn => h n (.inr hn)) d' hd
theorem Light.slice {t e : TypeId} {elems sp : List (DataW H)} (hu : Try.prog.underlying t = some (.slice e)) (h : Light t (.slice elems sp)) : (elems.length + sp.length) * Try.prog.bytesOf e ≤ reachBytes ∧ ∀ d ∈ elems, Light e d := by
  unfold Light at h
  simp only [DataW.weights, hu, List.mem_cons, List.mem_append] at h
  exact ⟨h _ (.inl rfl), Light.all fun n hn => h n (.inr (.inl hn))⟩
theorem Light.each {ts : List TypeId} {ds : List (DataW H)} (h : (DataW.weightsEach Try.prog ts ds).all (· ≤ reachBytes) = true) {j : Nat} {t : TypeId} {d : DataW H} (ht : ts[j]? = some t) (hd : ds[j]? = some d) : Light t d := fun n hn => by
  have := List.all_eq_true.1 h n (DataW.weights_mem_each ht hd n hn)
  simpa using this
theorem Light.field {t : TypeId} {fs : Array Field} {ds : List (DataW H)} (hu : Try.prog.underlying t = some (.struct fs)) (h : Light t (.agg ds)) {j : Nat} {f : Field} {d : DataW H} (hf : fs[j]? = some f) (hd : ds[j]? = some d) : Light f.type d := fun n hn => by
  refine h n ?_
  simp only [DataW.weights, hu]
  refine DataW.weights_mem_each (j := j) (t := f.type) ?_ hd n hn
  rw [List.getElem?_map]
  have : fs.toList[j]? = some f := by simpa using hf
  rw [this]; rfl
theorem take_one {l : List Value} {n : Nat} {v : Value} (h : (l.drop n).take 1 = [v]) : l[n]? = some v := by
  have := congrArg (·[0]?) h
  simpa [List.getElem?_take, List.getElem?_drop] using this
theorem open_i {n : Nat} {cs : List Value} {x : DataW H × List MemPlace} (h : DataW.trod enc Try.prog w base spare held n 3 cs = some x) : ∃ k : Int, cs = [.int .i64 k] := by
  obtain ⟨k, h1, _⟩ := DataW.trod_int Try.underlying3 h
  exact ⟨k, h1⟩
theorem open_gr {n : Nat} {cs : List Value} {x : DataW H × List MemPlace} (h : DataW.trod enc Try.prog w base spare held n 36 cs = some x) : ∃ g : Gr, cs = g.cells := by
  obtain ⟨xs, m, _, _, hlen, hxl, hf⟩ := DataW.trod_struct Try.underlying36 h
  have hl : cs.length = 6 := hlen.trans cells_gr
  have h0 := hf 0 _ rfl
  have h1 := hf 1 _ rfl
  rw [List.getElem?_eq_getElem (by rw [hxl]; decide)] at h0 h1
  obtain ⟨k, hk⟩ := open_i h0
  have e0 : (cs.drop 0).take 1 = [.int .i64 k] := hk
  obtain ⟨ys, m2, _, _, hlen2, hyl, ha⟩ := DataW.trod_array Try.underlying34 h1
  have key : ∀ i, i < 5 → ∃ z : Int, cs[1 + i]? = some (.int .i64 z) := fun i hi => by
    have h2 := ha i hi
    rw [List.getElem?_eq_getElem (by rw [hyl]; exact hi)] at h2
    obtain ⟨z, hz⟩ := open_i h2
    have e1 : ((((cs.drop 1).take 5).drop (i * 1)).take 1) = [.int .i64 z] := hz
    rw [Nat.mul_one] at e1
    have := take_one e1
    rw [List.getElem?_take_of_lt hi, List.getElem?_drop] at this
    exact ⟨z, this⟩
  obtain ⟨z0, e1⟩ := key 0 (by omega)
  obtain ⟨z1, e2⟩ := key 1 (by omega)
  obtain ⟨z2, e3⟩ := key 2 (by omega)
  obtain ⟨z3, e4⟩ := key 3 (by omega)
  obtain ⟨z4, e5⟩ := key 4 (by omega)
  have e0' := take_one e0
  refine ⟨⟨k, z0, z1, z2, z3, z4⟩, ?_⟩
  obtain ⟨c0, c1, c2, c3, c4, c5, rfl⟩ : ∃ c0 c1 c2 c3 c4 c5, cs = [c0, c1, c2, c3, c4, c5] := by
    match cs, hl with
    | [c0, c1, c2, c3, c4, c5], _ => exact ⟨_, _, _, _, _, _, rfl⟩
  · skip
    have f0 : c0 = .int .i64 k := by simpa using e0'
    have f1 : c1 = .int .i64 z0 := by simpa using e1
    have f2 : c2 = .int .i64 z1 := by simpa using e2
    have f3 : c3 = .int .i64 z2 := by simpa using e3
    have f4 : c4 = .int .i64 z3 := by simpa using e4
    have f5 : c5 = .int .i64 z4 := by simpa using e5
    rw [f0, f1, f2, f3, f4, f5]
theorem open_rd {n : Nat} {cs : List Value} {x : DataW H × List MemPlace} (h : DataW.trod enc Try.prog w base spare held n 38 cs = some x) : ∃ r : Rd, cs = r.cells := by
  obtain ⟨xs, m, _, _, hlen, hxl, hf⟩ := DataW.trod_struct Try.underlying38 h
  have hl : cs.length = 7 := hlen.trans cells_rd
  have h0 := hf 0 _ rfl
  have h1 := hf 1 _ rfl
  rw [List.getElem?_eq_getElem (by rw [hxl]; decide)] at h0 h1
  obtain ⟨g, hg⟩ := open_gr h0
  obtain ⟨k, hk⟩ := open_i h1
  have e0 : (cs.drop 0).take 6 = g.cells := hg
  have e1 := take_one (show (cs.drop 6).take 1 = [.int .i64 k] from hk)
  refine ⟨⟨g, k⟩, ?_⟩
  obtain ⟨c0, c1, c2, c3, c4, c5, c6, rfl⟩ : ∃ c0 c1 c2 c3 c4 c5 c6, cs = [c0, c1, c2, c3, c4, c5, c6] := by
    match cs, hl with
    | [c0, c1, c2, c3, c4, c5, c6], _ => exact ⟨_, _, _, _, _, _, _, rfl⟩
  · skip
    simp only [List.getElem?_cons_zero, List.getElem?_cons_succ, Option.some.injEq] at e1
    subst e1
    have e0' : [c0, c1, c2, c3, c4, c5] = g.cells := e0
    injection e0' with a0 e0'
    injection e0' with a1 e0'
    injection e0' with a2 e0'
    injection e0' with a3 e0'
    injection e0' with a4 e0'
    injection e0' with a5 e0'
    subst a0 a1 a2 a3 a4 a5
    rfl
theorem open_mv {n : Nat} {cs : List Value} {x : DataW H × List MemPlace} (h : DataW.trod enc Try.prog w base spare held n 97 cs = some x) : ∃ r : Mv, cs = r.cells := by
  obtain ⟨xs, m, _, _, hlen, hxl, hf⟩ := DataW.trod_struct Try.underlying97 h
  have hl : cs.length = 8 := hlen.trans cells_mv
  have h0 := hf 0 _ rfl
  have h1 := hf 1 _ rfl
  rw [List.getElem?_eq_getElem (by rw [hxl]; decide)] at h0 h1
  obtain ⟨g, hg⟩ := open_rd h0
  obtain ⟨k, hk⟩ := open_i h1
  have e0 : (cs.drop 0).take 7 = g.cells := hg
  have e1 := take_one (show (cs.drop 7).take 1 = [.int .i64 k] from hk)
  refine ⟨⟨g, k⟩, ?_⟩
  obtain ⟨c0, c1, c2, c3, c4, c5, c6, c7, rfl⟩ : ∃ c0 c1 c2 c3 c4 c5 c6 c7, cs = [c0, c1, c2, c3, c4, c5, c6, c7] := by
    match cs, hl with
    | [c0, c1, c2, c3, c4, c5, c6, c7], _ => exact ⟨_, _, _, _, _, _, _, _, rfl⟩
  · skip
    simp only [List.getElem?_cons_zero, List.getElem?_cons_succ, Option.some.injEq] at e1
    subst e1
    have e0' : [c0, c1, c2, c3, c4, c5, c6] = g.cells := e0
    injection e0' with a0 e0'
    injection e0' with a1 e0'
    injection e0' with a2 e0'
    injection e0' with a3 e0'
    injection e0' with a4 e0'
    injection e0' with a5 e0'
    injection e0' with a6 e0'
    subst a0 a1 a2 a3 a4 a5 a6
    rfl
theorem add_none (a : Addr) (h : a.spot = none) (k : Nat) : a.add k = ⟨a.block, a.off + k, none⟩ := by
  obtain ⟨b, o, s⟩ := a
  simp only at h
  subst h
  unfold Addr.add
  split <;> simp_all
theorem cell_lt {W : World} {a : Addr} {v : Value} (h : W.cell? a = some v) : a.block < W.heap.size ∧ a.spot = none := by
  unfold World.cell? at h
  rcases hh : W.heap[a.block]? with _ | o
  · rw [hh] at h; cases h
  · refine ⟨(Array.getElem?_eq_some_iff.1 hh).1, ?_⟩
    rw [hh] at h
    cases o <;> simp only at h
    case cells c t fr =>
      cases hs : a.spot with
      | none => rfl
      | some s => rw [hs] at h; simp at h
    all_goals cases h
/-- A slice of elements that open to α. -/
theorem open_row {α : Type} [Inhabited α] {en : α → List Value} {t e : TypeId} {size n : Nat} {cs : List Value} {x : DataW H × List MemPlace} (ht : Try.prog.underlying t = some (.slice e)) (hC : Try.prog.cellsOf e = size) (hsz : 0 < size) (hby : 8 ≤ Try.prog.bytesOf e)
    (hs : ∀ a, (en a).length = size) (hel : ∀ n cs (x : DataW H × List MemPlace), DataW.trod enc Try.prog w base spare held n e cs = some x → ∃ a, cs = en a) (h : DataW.trod enc Try.prog w base spare held n t cs = some x) (hl : Light t x.1) :
    ∃ v xs, cs = [v] ∧ Row en size w v xs ∧ ∀ (i : Nat) (a : α), xs[i]? = some a → ∃ (m : Nat) (y : DataW H × List MemPlace), DataW.trod enc Try.prog w base spare held m e (en a) = some y ∧ Light e y.1 := by
  rcases open_slice ht h with ⟨rfl, rfl⟩ | ⟨a, len, cap, m, k, D, Pl, rfl, hb, hlc, hcm, hm, rfl, hi⟩
  · exact ⟨_, [], rfl, Row.nil _ _ _, fun i a h => by simp at h⟩
  · have hll := hl.slice ht
    simp only [List.length_map, List.length_range] at hll
    have hlm : len ≤ m := by rw [hm]; split <;> omega
    have hlen : len ≤ 17592186044416 := by
      have h1 : len * 8 ≤ (len + (m - len)) * Try.prog.bytesOf e := Nat.mul_le_mul (by omega) hby
      have h2 : reachBytes = 140737488351232 := rfl
      omega
    have hd : ∀ i, i < len → ∃ y : α, w.cells? base (a.add (i * size)) size = some (en y) ∧ DataW.trod enc Try.prog w base spare held k e (en y) = some (D i, Pl i) := fun i hil => by
      obtain ⟨cs', hc, htr⟩ := hi i (by omega)
      obtain ⟨y, rfl⟩ := hel _ _ _ htr
      rw [hC] at hc
      exact ⟨y, hc, htr⟩
    have hch : ∃ f : Nat → α, ∀ i, i < len → w.cells? base (a.add (i * size)) size = some (en (f i)) ∧ DataW.trod enc Try.prog w base spare held k e (en (f i)) = some (D i, Pl i) := by
      refine ⟨fun i => if hh : i < len then Classical.choose (hd i hh) else default, fun i hil => ?_⟩
      simp only [dif_pos hil]
      exact Classical.choose_spec (hd i hil)
    obtain ⟨f, hf⟩ := hch
    have hlr : ((List.range len).map f).length = len := by simp
    refine ⟨_, (List.range len).map f, rfl, ⟨some a, cap, by rw [hlr], by rw [hlr]; exact hlc, ⟨by unfold maxLen at hcm; exact hcm, by rw [hlr]; exact hlen⟩, fun hp => ?_⟩, fun i y hy => ?_⟩
    · rw [hlr] at hp
      obtain ⟨_, hcl, hat⟩ := World.cells?_some (hf 0 hp).1
      have hc0 := hat 0 hsz
      have hx : (en (f 0))[0]? = some ((en (f 0))[0]'(by rw [hs]; exact hsz)) := List.getElem?_eq_getElem _
      rw [hx] at hc0
      have ha0 : (a.add (0 * size)).add 0 = a := by simp [Addr.add]
      rw [ha0] at hc0
      obtain ⟨hblk, hspot⟩ := cell_lt hc0
      refine ⟨a.block, a.off, ?_, hblk, fun i y hy j u hu => ?_⟩
      · obtain ⟨b, o, s⟩ := a
        simp only at hspot
        rw [hspot]
      · rw [List.getElem?_map] at hy
        have hil : i < len := by
          rcases Nat.lt_or_ge i len with h | h
          · exact h
          · rw [List.getElem?_eq_none (by simpa using h)] at hy; cases hy
        rw [List.getElem?_range hil] at hy
        simp only [Option.map_some, Option.some.injEq] at hy
        subst hy
        obtain ⟨_, _, hat⟩ := World.cells?_some (hf i hil).1
        have hj : j < size := by
          rcases Nat.lt_or_ge j size with h | h
          · exact h
          · rw [List.getElem?_eq_none (by rw [hs]; exact h)] at hu; cases hu
        have := hat j hj
        rw [hu, add_none a hspot, add_none _ rfl] at this
        exact this
    · rw [List.getElem?_map] at hy
      have hil : i < len := by
        rcases Nat.lt_or_ge i len with h | h
        · exact h
        · rw [List.getElem?_eq_none (by simpa using h)] at hy; cases hy
      rw [List.getElem?_range hil] at hy
      simp only [Option.map_some, Option.some.injEq] at hy
      subst hy
      exact ⟨k, _, (hf i hil).2, hll.2 _ (List.mem_map.2 ⟨i, List.mem_range.2 hil, rfl⟩)⟩
/-- A slice's cell is one value. -/
theorem open_one {t e : TypeId} {n : Nat} {cs : List Value} {x : DataW H × List MemPlace} (ht : Try.prog.underlying t = some (.slice e)) (h : DataW.trod enc Try.prog w base spare held n t cs = some x) : ∃ v, cs = one v := by
  rcases open_slice ht h with ⟨rfl, _⟩ | ⟨a, len, cap, m, k, D, Pl, rfl, _⟩
  · exact ⟨_, rfl⟩
  · exact ⟨_, rfl⟩
theorem open_rows2 {α : Type} [Inhabited α] {en : α → List Value} {t e e2 : TypeId} {size n : Nat} {cs : List Value} {x : DataW H × List MemPlace} (ht : Try.prog.underlying t = some (.slice e)) (ht2 : Try.prog.underlying e = some (.slice e2)) (hC1 : Try.prog.cellsOf e = 1) (hby1 : 8 ≤ Try.prog.bytesOf e)
    (hC : Try.prog.cellsOf e2 = size) (hsz : 0 < size) (hby : 8 ≤ Try.prog.bytesOf e2)
    (hs : ∀ a, (en a).length = size) (hel : ∀ n cs (x : DataW H × List MemPlace), DataW.trod enc Try.prog w base spare held n e2 cs = some x → ∃ a, cs = en a) (h : DataW.trod enc Try.prog w base spare held n t cs = some x) (hl : Light t x.1) :
    ∃ v xss, cs = [v] ∧ Rows2 en size w v xss := by
  haveI : Inhabited Value := ⟨undef⟩
  obtain ⟨v, vs, hv, hr, hall⟩ := open_row (en := one) (size := 1) ht hC1 (by decide) hby1 (fun _ => rfl) (fun _ _ _ h => open_one ht2 h) h hl
  have hin : ∀ u ∈ vs, ∃ xs, Row en size w u xs := fun u hu => by
    obtain ⟨i, hi⟩ := List.mem_iff_getElem?.1 hu
    obtain ⟨m, y, h1, h2⟩ := hall i u hi
    obtain ⟨v', xs, he, hr', _⟩ := open_row ht2 hC hsz hby hs hel h1 h2
    injection he with he
    subst he
    exact ⟨xs, hr'⟩
  have hch : ∀ vs : List Value, (∀ u ∈ vs, ∃ xs, Row en size w u xs) → ∃ xss : List (List α), vs.length = xss.length ∧ ∀ (i : Nat) (u : Value) (xs : List α), vs[i]? = some u → xss[i]? = some xs → Row en size w u xs := by
    intro vs
    induction vs with
    | nil => exact fun _ => ⟨[], rfl, fun i u xs h => by simp at h⟩
    | cons v0 vs ih =>
      intro hin
      obtain ⟨xss, h1, h2⟩ := ih (fun u hu => hin u (List.mem_cons_of_mem _ hu))
      obtain ⟨xs0, h0⟩ := hin v0 (List.mem_cons_self ..)
      refine ⟨xs0 :: xss, by simp [h1], fun i u xs hu hx => ?_⟩
      cases i with
      | zero =>
        simp only [List.getElem?_cons_zero, Option.some.injEq] at hu hx
        subst hu hx
        exact h0
      | succ i =>
        simp only [List.getElem?_cons_succ] at hu hx
        exact h2 i u xs hu hx
  obtain ⟨xss, h1, h2⟩ := hch vs hin
  exact ⟨v, xss, hv, vs, h1, hr, h2⟩
theorem open_adv {v : Value} {d : DataW H} {p : List MemPlace} {r : Reach} {b0 : Nat} (hv : Value.okWide Try.prog w r b0 29 v) (h : DataW.Trod enc Try.prog w base spare held 29 v d p) (hl : Light 29 d) : ∃ A, AdvRep w v A := by
  obtain ⟨cs, rfl, hsz⟩ := okWide_struct Try.underlying29 hv
  obtain ⟨n, h⟩ := h
  obtain ⟨xs, m, _, hx, hlen, hxl, hf⟩ := DataW.trod_struct Try.underlying29 h
  have hc2 : cs.size = 2 := hsz.trans cells_adv
  obtain ⟨l⟩ := cs
  match l, hc2 with
  | [c0, c1], _ =>
    have h0 := hf 0 _ rfl
    have h1 := hf 1 _ rfl
    have hx0 : xs[0]? = some (xs[0]'(by rw [hxl]; decide)) := List.getElem?_eq_getElem _
    have hx1 : xs[1]? = some (xs[1]'(by rw [hxl]; decide)) := List.getElem?_eq_getElem _
    rw [hx0] at h0
    rw [hx1] at h1
    obtain ⟨k, hk⟩ := open_i h0
    have e0 : [c0] = [Value.int .i64 k] := hk
    injection e0 with e0
    subst e0
    have hd : d = .agg (xs.map (·.1)) := (Prod.mk.inj hx).1
    subst hd
    have hl1 := hl.field Try.underlying29 (j := 1) rfl (d := (xs[1]'(by rw [hxl]; decide)).1) (by rw [List.getElem?_map, hx1]; rfl)
    obtain ⟨v, xss, hv, hr⟩ := open_rows2 (en := Mv.cells) (size := 8) Try.underlying27 Try.underlying95 cells_mvs bytes_mvs cells_mv (by decide) bytes_mv (fun _ => rfl) (fun _ _ _ h => open_mv h) h1 hl1
    have e1 : [c1] = [v] := hv
    injection e1 with e1
    subst e1
    exact ⟨⟨k, xss⟩, _, rfl, hr⟩
theorem open_rds {v : Value} {d : DataW H} {p : List MemPlace} (h : DataW.Trod enc Try.prog w base spare held 22 v d p) (hc : v.cells.toList = [v]) (hl : Light 22 d) : ∃ l, Row Rd.cells 7 w v l := by
  obtain ⟨n, h⟩ := h
  obtain ⟨v', xs, hv, hr, _⟩ := open_row (en := Rd.cells) (size := 7) Try.underlying22 cells_rd (by decide) bytes_rd (fun _ => rfl) (fun _ _ _ h => open_rd h) h hl
  rw [hc] at hv
  injection hv with hv
  subst hv
  exact ⟨xs, hr⟩
end

theorem laidOut : laidOutB Try.prog = true := by kernel_rfl
theorem ownKnob_none : ownKnob Try.prog.godebug = none := by kernel_rfl
/-- What was handed in reads behind the call as before. -/
theorem keep_all {H : Type} {enc : TypeId × Value → H} {W W' : World} (hE : Ext W W') : ∀ {ts : List TypeId} {vs : List Value} {ds : List (DataW H)} {ps : List MemPlace}, (∀ t ∈ ts, Try.prog.readableRec t = true ∧ t < Try.prog.types.size) →
    DataW.TrodAll enc Try.prog W 0 (fun _ => true) true ts vs ds ps → (∀ x ∈ ps, x.block < W.heap.size) → ∀ sp : Nat → Bool, (∀ p ∈ ps, sp p.block = true) → DataW.TrodAll enc Try.prog W' 0 sp true ts vs ds ps
  | [], [], [], _, _, h, _, _, _ => h
  | [], [], _ :: _, _, _, h, _, _, _ => h.elim
  | [], _ :: _, _, _, _, h, _, _, _ => by cases ‹List (DataW H)› <;> exact h.elim
  | _ :: _, [], _, _, _, h, _, _, _ => by cases ‹List (DataW H)› <;> exact h.elim
  | _ :: _, _ :: _, [], _, _, h, _, _, _ => h.elim
  | t :: ts, v :: vs, d :: ds, ps, ht, h, hlt, sp, hsp => by
    obtain ⟨p, q, ⟨fuel, h1⟩, h2, rfl⟩ := h
    have ht0 := ht t (List.mem_cons_self ..)
    refine ⟨p, q, ⟨fuel, ?_⟩, ?_, rfl⟩
    · exact DataW.trod_stays (kids_book laidOut ht0.1) (book_sized ht0.1) (fun h => by cases h) ⟨ht0.2, book_self t⟩ h1 (fun x hx => hE.b.same (hlt x (List.mem_append_left _ hx))) (fun x hx => hsp x (List.mem_append_left _ hx))
    · exact keep_all hE (fun t h => ht t (List.mem_cons_of_mem _ h)) h2 (fun x hx => hlt x (List.mem_append_right _ hx)) sp (fun x hx => hsp x (List.mem_append_right _ hx))
section
variable {H : Type} {enc : TypeId × Value → H} {P : Program}
theorem post_of_below {f : Func} {s : ChangeSpec} {apart fresh handsOn again : Bool} {W W' : World} {args : Array Value} {v : Value} {ds gs : List (DataW H)} {before pa pv : List MemPlace}
    (hW : DataW.Whole enc P f.params.toList s.vars apart W args.toList ds gs before)
    (hres : ∀ (b : Nat) (sp : Nat → Bool) (hd : Bool), DataW.TrodAll enc P W' b sp hd f.resultTypes.toList (v.resultList f.resultTypes.size) (s.fn H (ds ++ gs)).results [])
    (hargs : ∀ sp : Nat → Bool, (∀ p ∈ before, sp p.block = true) → DataW.TrodAll enc P W' 0 sp true f.params.toList args.toList (s.fn H (ds ++ gs)).args pa)
    (hvars : ∀ sp : Nat → Bool, (∀ p ∈ before, sp p.block = true) → DataW.TrodVars enc P W' sp s.vars (s.fn H (ds ++ gs)).vars pv)
    (hps : before = pa ++ pv) (hb : Below W.heap.size W W')
    (hok : ∀ (j : Nat) (t : TypeId) (r : Value), f.resultTypes[j]? = some t → (v.resultList f.resultTypes.size)[j]? = some r → Value.okWide P W' .any 0 t r) :
    s.post enc P f apart fresh handsOn again W args v W' := by
  have hlt : ∀ p ∈ before, p.block < W.heap.size := fun p hp => hW.lt p hp
  have hold : ∀ p ∈ before, (fun b => decide (b < W.heap.size)) p.block = true := fun p hp => by simpa using hlt p hp
  refine ⟨ds, gs, before, [], pa, pv, hW, hres _ _ _, hargs _ hold, hvars _ hold, World.keptBut_mono (fun p hp => ⟨hp, ?_⟩) (hb.frame (· ∈ before)), fun _ => ?_⟩
  · rw [hps, List.mem_append] at hp
    exact Or.inr hp
  · obtain ⟨_, _, _, _, _, hz, hn⟩ := hW
    refine ⟨hok, _, _, ([] ++ pa) ++ pv, ⟨[] ++ pa, pv, trodAll_append (hargs _ (fun _ _ => rfl)) (hres _ _ _), hvars _ (fun _ _ => rfl), rfl, ?_, ?_⟩, ?_⟩
    · intro b off hp
      have hin : MemPlace.cell b off ∈ before := by rw [hps]; simpa using hp
      rw [hb.frozen (hlt _ hin)]
      exact hz b off hin
    · intro ha
      have := hn ha
      rw [hps] at this
      simpa using this
    · intro p hp _
      rw [hps]
      simpa using hp
end
end Go.Proofs.Ytnhgdjiljjpgmaa
