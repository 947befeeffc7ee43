/-
  The arguments of layer 13's laws, opened: expressions, sizes, vectors; the package's table.
  Conditions: none.
-/
import Derived.Test.YthkididgbaamcaaGreatDoorAw13
import Derived.Test.YthkididgbaamcaaGreatDoorInpR
import Derived.Test.YthkididgbaamcaaGreatDoorGraphsR
import Derived.Test.YthkididgbaamcaaGreatDoorRep
import Derived.Deep.Slices
import Derived.Deep.Fields
import Derived.SizedLaws
import Derived.OpenVars
import Derived.OpenShut
import Derived.ProofKit
import Derived.LaidMore
import Derived.Stop.Joined
namespace Go.Proofs.YthkididgbaamcaaGreatDoor
open Go.RowKit
attribute [local go_sem] Oper.semAt_some

def fewB (n m : Int) : Bool := (decide (n ≤ 3) || decide (5 < n)) && (decide (m ≤ 3) || decide (8 < m))
theorem few_vecs {n m : Int} (h : fewB n m = true) : fewV n m := by
  intro h1 h2 h3 h4
  unfold fewB at h
  simp only [Bool.and_eq_true, Bool.or_eq_true, decide_eq_true_eq] at h
  have a : n.toNat ≤ 3 := by omega
  have b : m.toNat ≤ 3 := by omega
  exact Nat.le_trans (Nat.pow_le_pow_left b _) (Nat.le_trans (Nat.pow_le_pow_right (by decide) a) (by decide))
theorem few_nodes {e : Ex} (h : efew e = true) : e.nodes ≤ 100000 := by
  unfold efew at h
  simp only [Bool.and_eq_true, decide_eq_true_eq] at h
  have := cntE_nodes e 140 (by omega) h.1
  omega
theorem inpS_len {n m : Int} {e : Ex} (hf : fewV n m) : (inpS n m e).1.length ≤ 1024 := by
  unfold inpS
  by_cases h1 : sizesS n [m] ≠ 0
  · rw [if_pos h1]; exact Nat.zero_le _
  rw [if_neg h1]
  split
  · exact Nat.zero_le _
  · obtain ⟨a, b, c, d⟩ := sizes_zero (by simpa using h1)
    exact Nat.le_trans (List.length_filter_le _ _) (by rw [vecs_len]; exact hf a b c d)
theorem outS_len {n m : Int} {li : List Int} {e : Ex} (hf : fewV n m) : (outS n m li e).1.length ≤ 1024 := by
  unfold outS
  by_cases h1 : sizesS n [m] ≠ 0
  · rw [if_pos h1]; exact Nat.zero_le _
  rw [if_neg h1]
  split
  · exact Nat.zero_le _
  split
  · exact Nat.zero_le _
  split
  · exact Nat.zero_le _
  · obtain ⟨a, b, c, d⟩ := sizes_zero (by simpa using h1)
    exact Nat.le_trans (List.length_filter_le _ _) (by rw [vecs_len]; exact hf a b c d)
end Go.Proofs.YthkididgbaamcaaGreatDoor

namespace Go.Proofs.YthkididgbaamcaaGreatDoor
open Go.ChangeShapes Go.WideShapes Go.ChangeAt Go.RowKit Go.Deep

set_option maxRecDepth 100000
section
variable {H : Type} {enc : TypeId × Value → H} {w : World} {base : Nat} {spare : Nat → Bool} {held : Bool}

/-- Nothing in it is heavier than the reach. -/
def Light (t : TypeId) (d : DataW H) : Prop := ∀ n ∈ d.weights Tryz.prog t, n ≤ reachBytes
theorem Light.all {t : TypeId} : ∀ {ds : List (DataW H)}, (∀ n ∈ DataW.weightsAll Tryz.prog t ds, n ≤ reachBytes) → ∀ d ∈ ds, Light t d
  | [], _, d, hd => by cases hd
  | d :: ds, h, d', hd => by
    simp only [DataW.weightsAll, List.mem_append] at h
    rcases List.mem_cons.1 hd with rfl | hd
    · exact fun n hn => h n (.inl hn)
    · exact Light.all (fun n hn => h n (.inr hn)) d' hd
theorem Light.slice {t e : TypeId} {elems sp : List (DataW H)} (hu : Tryz.prog.underlying t = some (.slice e)) (h : Light t (.slice elems sp)) : (elems.length + sp.length) * Tryz.prog.bytesOf e ≤ reachBytes ∧ ∀ d ∈ elems, Light e d := by
  unfold Light at h
  simp only [DataW.weights, hu, List.mem_cons, List.mem_append] at h
  exact ⟨h _ (.inl rfl), Light.all fun n hn => h n (.inr (.inl hn))⟩
theorem Light.each {ts : List TypeId} {ds : List (DataW H)} (h : (DataW.weightsEach Tryz.prog ts ds).all (· ≤ reachBytes) = true) {j : Nat} {t : TypeId} {d : DataW H} (ht : ts[j]? = some t) (hd : ds[j]? = some d) : Light t d := fun n hn => by
  have := List.all_eq_true.1 h n (DataW.weights_mem_each ht hd n hn)
  simpa using this
theorem Light.field {t : TypeId} {fs : Array Field} {ds : List (DataW H)} (hu : Tryz.prog.underlying t = some (.struct fs)) (h : Light t (.agg ds)) {j : Nat} {f : Field} {d : DataW H} (hf : fs[j]? = some f) (hd : ds[j]? = some d) : Light f.type d := fun n hn => by
  refine h n ?_
  simp only [DataW.weights, hu]
  refine DataW.weights_mem_each (j := j) (t := f.type) ?_ hd n hn
  rw [List.getElem?_map]
  have : fs.toList[j]? = some f := by simpa using hf
  rw [this]; rfl
theorem take_one {l : List Value} {n : Nat} {v : Value} (h : (l.drop n).take 1 = [v]) : l[n]? = some v := by
  have := congrArg (·[0]?) h
  simpa [List.getElem?_take, List.getElem?_drop] using this
theorem open_i {n : Nat} {cs : List Value} {x : DataW H × List MemPlace} (h : DataW.trod enc Tryz.prog w base spare held n 3 cs = some x) : ∃ k : Int, cs = [.int .i64 k] := by
  obtain ⟨k, h1, _⟩ := DataW.trod_int Tryz.underlying3 h
  exact ⟨k, h1⟩
theorem add_none (a : Addr) (h : a.spot = none) (k : Nat) : a.add k = ⟨a.block, a.off + k, none⟩ := by
  obtain ⟨b, o, s⟩ := a
  simp only at h
  subst h
  unfold Addr.add
  split <;> simp_all
theorem cell_lt {W : World} {a : Addr} {v : Value} (h : W.cell? a = some v) : a.block < W.heap.size ∧ a.spot = none := by
  unfold World.cell? at h
  rcases hh : W.heap[a.block]? with _ | o
  · rw [hh] at h; cases h
  · refine ⟨(Array.getElem?_eq_some_iff.1 hh).1, ?_⟩
    rw [hh] at h
    cases o <;> simp only at h
    case cells c t fr =>
      cases hs : a.spot with
      | none => rfl
      | some s => rw [hs] at h; simp at h
    all_goals cases h
/-- A slice of elements that open to α. -/
theorem open_row {α : Type} [Inhabited α] {en : α → List Value} {t e : TypeId} {size n : Nat} {cs : List Value} {x : DataW H × List MemPlace} (ht : Tryz.prog.underlying t = some (.slice e)) (hC : Tryz.prog.cellsOf e = size) (hsz : 0 < size) (hby : 8 ≤ Tryz.prog.bytesOf e)
    (hs : ∀ a, (en a).length = size) (hel : ∀ n cs (x : DataW H × List MemPlace), DataW.trod enc Tryz.prog w base spare held n e cs = some x → ∃ a, cs = en a) (h : DataW.trod enc Tryz.prog w base spare held n t cs = some x) (hl : Light t x.1) :
    ∃ v xs, cs = [v] ∧ Row en size w v xs ∧ ∀ (i : Nat) (a : α), xs[i]? = some a → ∃ (m : Nat) (y : DataW H × List MemPlace), DataW.trod enc Tryz.prog w base spare held m e (en a) = some y ∧ Light e y.1 := by
  rcases open_slice ht h with ⟨rfl, rfl⟩ | ⟨a, len, cap, m, k, D, Pl, rfl, hb, hlc, hcm, hm, rfl, hi⟩
  · exact ⟨_, [], rfl, Row.nil _ _ _, fun i a h => by simp at h⟩
  · have hll := hl.slice ht
    simp only [List.length_map, List.length_range] at hll
    have hlm : len ≤ m := by rw [hm]; split <;> omega
    have hlen : len ≤ 17592186044416 := by
      have h1 : len * 8 ≤ (len + (m - len)) * Tryz.prog.bytesOf e := Nat.mul_le_mul (by omega) hby
      have h2 : reachBytes = 140737488351232 := rfl
      omega
    have hd : ∀ i, i < len → ∃ y : α, w.cells? base (a.add (i * size)) size = some (en y) ∧ DataW.trod enc Tryz.prog w base spare held k e (en y) = some (D i, Pl i) := fun i hil => by
      obtain ⟨cs', hc, htr⟩ := hi i (by omega)
      obtain ⟨y, rfl⟩ := hel _ _ _ htr
      rw [hC] at hc
      exact ⟨y, hc, htr⟩
    have hch : ∃ f : Nat → α, ∀ i, i < len → w.cells? base (a.add (i * size)) size = some (en (f i)) ∧ DataW.trod enc Tryz.prog w base spare held k e (en (f i)) = some (D i, Pl i) := by
      refine ⟨fun i => if hh : i < len then Classical.choose (hd i hh) else default, fun i hil => ?_⟩
      simp only [dif_pos hil]
      exact Classical.choose_spec (hd i hil)
    obtain ⟨f, hf⟩ := hch
    have hlr : ((List.range len).map f).length = len := by simp
    refine ⟨_, (List.range len).map f, rfl, ⟨some a, cap, by rw [hlr], by rw [hlr]; exact hlc, ⟨by unfold maxLen at hcm; exact hcm, by rw [hlr]; exact hlen⟩, fun hp => ?_⟩, fun i y hy => ?_⟩
    · rw [hlr] at hp
      obtain ⟨_, hcl, hat⟩ := World.cells?_some (hf 0 hp).1
      have hc0 := hat 0 hsz
      have hx : (en (f 0))[0]? = some ((en (f 0))[0]'(by rw [hs]; exact hsz)) := List.getElem?_eq_getElem _
      rw [hx] at hc0
      have ha0 : (a.add (0 * size)).add 0 = a := by simp [Addr.add]
      rw [ha0] at hc0
      obtain ⟨hblk, hspot⟩ := cell_lt hc0
      refine ⟨a.block, a.off, ?_, hblk, fun i y hy j u hu => ?_⟩
      · obtain ⟨b, o, s⟩ := a
        simp only at hspot
        rw [hspot]
      · rw [List.getElem?_map] at hy
        have hil : i < len := by
          rcases Nat.lt_or_ge i len with h | h
          · exact h
          · rw [List.getElem?_eq_none (by simpa using h)] at hy; cases hy
        rw [List.getElem?_range hil] at hy
        simp only [Option.map_some, Option.some.injEq] at hy
        subst hy
        obtain ⟨_, _, hat⟩ := World.cells?_some (hf i hil).1
        have hj : j < size := by
          rcases Nat.lt_or_ge j size with h | h
          · exact h
          · rw [List.getElem?_eq_none (by rw [hs]; exact h)] at hu; cases hu
        have := hat j hj
        rw [hu, add_none a hspot, add_none _ rfl] at this
        exact this
    · rw [List.getElem?_map] at hy
      have hil : i < len := by
        rcases Nat.lt_or_ge i len with h | h
        · exact h
        · rw [List.getElem?_eq_none (by simpa using h)] at hy; cases hy
      rw [List.getElem?_range hil] at hy
      simp only [Option.map_some, Option.some.injEq] at hy
      subst hy
      exact ⟨k, _, (hf i hil).2, hll.2 _ (List.mem_map.2 ⟨i, List.mem_range.2 hil, rfl⟩)⟩
/-- A slice's cell is one value. -/
theorem open_one {t e : TypeId} {n : Nat} {cs : List Value} {x : DataW H × List MemPlace} (ht : Tryz.prog.underlying t = some (.slice e)) (h : DataW.trod enc Tryz.prog w base spare held n t cs = some x) : ∃ v, cs = one v := by
  rcases open_slice ht h with ⟨rfl, _⟩ | ⟨a, len, cap, m, k, D, Pl, rfl, _⟩
  · exact ⟨_, rfl⟩
  · exact ⟨_, rfl⟩
theorem open_rows2 {α : Type} [Inhabited α] {en : α → List Value} {t e e2 : TypeId} {size n : Nat} {cs : List Value} {x : DataW H × List MemPlace} (ht : Tryz.prog.underlying t = some (.slice e)) (ht2 : Tryz.prog.underlying e = some (.slice e2)) (hC1 : Tryz.prog.cellsOf e = 1) (hby1 : 8 ≤ Tryz.prog.bytesOf e)
    (hC : Tryz.prog.cellsOf e2 = size) (hsz : 0 < size) (hby : 8 ≤ Tryz.prog.bytesOf e2)
    (hs : ∀ a, (en a).length = size) (hel : ∀ n cs (x : DataW H × List MemPlace), DataW.trod enc Tryz.prog w base spare held n e2 cs = some x → ∃ a, cs = en a) (h : DataW.trod enc Tryz.prog w base spare held n t cs = some x) (hl : Light t x.1) :
    ∃ v xss, cs = [v] ∧ Rows2 en size w v xss := by
  haveI : Inhabited Value := ⟨undef⟩
  obtain ⟨v, vs, hv, hr, hall⟩ := open_row (en := one) (size := 1) ht hC1 (by decide) hby1 (fun _ => rfl) (fun _ _ _ h => open_one ht2 h) h hl
  have hin : ∀ u ∈ vs, ∃ xs, Row en size w u xs := fun u hu => by
    obtain ⟨i, hi⟩ := List.mem_iff_getElem?.1 hu
    obtain ⟨m, y, h1, h2⟩ := hall i u hi
    obtain ⟨v', xs, he, hr', _⟩ := open_row ht2 hC hsz hby hs hel h1 h2
    injection he with he
    subst he
    exact ⟨xs, hr'⟩
  have hch : ∀ vs : List Value, (∀ u ∈ vs, ∃ xs, Row en size w u xs) → ∃ xss : List (List α), vs.length = xss.length ∧ ∀ (i : Nat) (u : Value) (xs : List α), vs[i]? = some u → xss[i]? = some xs → Row en size w u xs := by
    intro vs
    induction vs with
    | nil => exact fun _ => ⟨[], rfl, fun i u xs h => by simp at h⟩
    | cons v0 vs ih =>
      intro hin
      obtain ⟨xss, h1, h2⟩ := ih (fun u hu => hin u (List.mem_cons_of_mem _ hu))
      obtain ⟨xs0, h0⟩ := hin v0 (List.mem_cons_self ..)
      refine ⟨xs0 :: xss, by simp [h1], fun i u xs hu hx => ?_⟩
      cases i with
      | zero =>
        simp only [List.getElem?_cons_zero, Option.some.injEq] at hu hx
        subst hu hx
        exact h0
      | succ i =>
        simp only [List.getElem?_cons_succ] at hu hx
        exact h2 i u xs hu hx
  obtain ⟨xss, h1, h2⟩ := hch vs hin
  exact ⟨v, xss, hv, vs, h1, hr, h2⟩
end

theorem laidOut : laidOutB Tryz.prog = true := by kernel_rfl
theorem ownKnob_none : ownKnob Tryz.prog.godebug = none := by kernel_rfl
/-- What was handed in reads behind the call as before. -/
theorem keep_all {H : Type} {enc : TypeId × Value → H} {W W' : World} (hE : Ext W W') : ∀ {ts : List TypeId} {vs : List Value} {ds : List (DataW H)} {ps : List MemPlace}, (∀ t ∈ ts, Tryz.prog.readableRec t = true ∧ t < Tryz.prog.types.size) →
    DataW.TrodAll enc Tryz.prog W 0 (fun _ => true) true ts vs ds ps → (∀ x ∈ ps, x.block < W.heap.size) → ∀ sp : Nat → Bool, (∀ p ∈ ps, sp p.block = true) → DataW.TrodAll enc Tryz.prog W' 0 sp true ts vs ds ps
  | [], [], [], _, _, h, _, _, _ => h
  | [], [], _ :: _, _, _, h, _, _, _ => h.elim
  | [], _ :: _, _, _, _, h, _, _, _ => by cases ‹List (DataW H)› <;> exact h.elim
  | _ :: _, [], _, _, _, h, _, _, _ => by cases ‹List (DataW H)› <;> exact h.elim
  | _ :: _, _ :: _, [], _, _, h, _, _, _ => h.elim
  | t :: ts, v :: vs, d :: ds, ps, ht, h, hlt, sp, hsp => by
    obtain ⟨p, q, ⟨fuel, h1⟩, h2, rfl⟩ := h
    have ht0 := ht t (List.mem_cons_self ..)
    refine ⟨p, q, ⟨fuel, ?_⟩, ?_, rfl⟩
    · exact DataW.trod_stays (kids_book laidOut ht0.1) (book_sized ht0.1) (fun h => by cases h) ⟨ht0.2, book_self t⟩ h1 (fun x hx => hE.b.same (hlt x (List.mem_append_left _ hx))) (fun x hx => hsp x (List.mem_append_left _ hx))
    · exact keep_all hE (fun t h => ht t (List.mem_cons_of_mem _ h)) h2 (fun x hx => hlt x (List.mem_append_right _ hx)) sp (fun x hx => hsp x (List.mem_append_right _ hx))
section
variable {H : Type} {enc : TypeId × Value → H} {P : Program}
theorem post_of_below {f : Func} {s : ChangeSpec} {apart fresh handsOn again : Bool} {W W' : World} {args : Array Value} {v : Value} {ds gs : List (DataW H)} {before pa pv : List MemPlace}
    (hW : DataW.Whole enc P f.params.toList s.vars apart W args.toList ds gs before)
    (hres : ∀ (b : Nat) (sp : Nat → Bool) (hd : Bool), DataW.TrodAll enc P W' b sp hd f.resultTypes.toList (v.resultList f.resultTypes.size) (s.fn H (ds ++ gs)).results [])
    (hargs : ∀ sp : Nat → Bool, (∀ p ∈ before, sp p.block = true) → DataW.TrodAll enc P W' 0 sp true f.params.toList args.toList (s.fn H (ds ++ gs)).args pa)
    (hvars : ∀ sp : Nat → Bool, (∀ p ∈ before, sp p.block = true) → DataW.TrodVars enc P W' sp s.vars (s.fn H (ds ++ gs)).vars pv)
    (hps : before = pa ++ pv) (hb : Below W.heap.size W W')
    (hok : ∀ (j : Nat) (t : TypeId) (r : Value), f.resultTypes[j]? = some t → (v.resultList f.resultTypes.size)[j]? = some r → Value.okWide P W' .any 0 t r) :
    s.post enc P f apart fresh handsOn again W args v W' := by
  have hlt : ∀ p ∈ before, p.block < W.heap.size := fun p hp => hW.lt p hp
  have hold : ∀ p ∈ before, (fun b => decide (b < W.heap.size)) p.block = true := fun p hp => by simpa using hlt p hp
  refine ⟨ds, gs, before, [], pa, pv, hW, hres _ _ _, hargs _ hold, hvars _ hold, World.keptBut_mono (fun p hp => ⟨hp, ?_⟩) (hb.frame (· ∈ before)), fun _ => ?_⟩
  · rw [hps, List.mem_append] at hp
    exact Or.inr hp
  · obtain ⟨_, _, _, _, _, hz, hn⟩ := hW
    refine ⟨hok, _, _, ([] ++ pa) ++ pv, ⟨[] ++ pa, pv, trodAll_append (hargs _ (fun _ _ => rfl)) (hres _ _ _), hvars _ (fun _ _ => rfl), rfl, ?_, ?_⟩, ?_⟩
    · intro b off hp
      have hin : MemPlace.cell b off ∈ before := by rw [hps]; simpa using hp
      rw [hb.frozen (hlt _ hin)]
      exact hz b off hin
    · intro ha
      have := hn ha
      rw [hps] at this
      simpa using this
    · intro p hp _
      rw [hps]
      simpa using hp
end
end Go.Proofs.YthkididgbaamcaaGreatDoor

namespace Go.Proofs.YthkididgbaamcaaGreatDoor
open Go.ChangeShapes Go.WideShapes Go.ChangeAt Go.RowKit Go.Deep

set_option maxRecDepth 100000
theorem cells_ex : Tryz.prog.cellsOf 25 = 3 := by kernel_rfl
theorem bytes_ex : 8 ≤ Tryz.prog.bytesOf 25 := of_decide_eq_true (by kernel_rfl)
theorem cells_exs : Tryz.prog.cellsOf 23 = 1 := by kernel_rfl
theorem cells_int : Tryz.prog.cellsOf 3 = 1 := by kernel_rfl
theorem bytes_int : 8 ≤ Tryz.prog.bytesOf 3 := of_decide_eq_true (by kernel_rfl)
section
variable {H : Type} {enc : TypeId × Value → H} {w : World} {base : Nat} {spare : Nat → Bool} {held : Bool}
theorem open_ex : ∀ (n : Nat) (cs : List Value) (x : DataW H × List MemPlace), DataW.trod enc Tryz.prog w base spare held n 25 cs = some x → Light 25 x.1 →
    ∃ (e : Ex) (p : Option Addr) (c : Nat), cs = [.int .i64 e.op, .int .i64 e.num, .slice p e.args.length c] ∧ ExAt w (.agg #[.int .i64 e.op, .int .i64 e.num, .slice p e.args.length c]) e := by
  intro n
  induction n using Nat.strongRecOn with
  | ind n ih =>
  intro cs x h hl
  obtain ⟨xs, m, hnm, hx, hlen, hxl, hf⟩ := DataW.trod_struct Tryz.underlying25 h
  have hl3 : cs.length = 3 := hlen.trans cells_ex
  have h0 := hf 0 _ rfl
  have h1 := hf 1 _ rfl
  have h2 := hf 2 _ rfl
  have hx2 : xs[2]? = some (xs[2]'(by rw [hxl]; decide)) := List.getElem?_eq_getElem _
  rw [List.getElem?_eq_getElem (by rw [hxl]; decide)] at h0 h1
  rw [hx2] at h2
  obtain ⟨op, hop⟩ := open_i h0
  obtain ⟨num, hnum⟩ := open_i h1
  have e0 := take_one (show (cs.drop 0).take 1 = [.int .i64 op] from hop)
  have e1 := take_one (show (cs.drop 1).take 1 = [.int .i64 num] from hnum)
  obtain ⟨y0, y1, y2, rfl⟩ : ∃ y0 y1 y2, cs = [y0, y1, y2] := by
    match cs, hl3 with
    | [y0, y1, y2], _ => exact ⟨_, _, _, rfl⟩
  simp only [List.getElem?_cons_zero, List.getElem?_cons_succ, Option.some.injEq] at e0 e1
  subst e0 e1
  have hd : x.1 = .agg (xs.map (·.1)) := by rw [hx]
  rw [hd] at hl
  have hl2 := hl.field Tryz.underlying25 (j := 2) rfl (d := (xs[2]'(by rw [hxl]; decide)).1) (by rw [List.getElem?_map, hx2]; rfl)
  generalize xs[2]'(by rw [hxl]; decide) = z at h2 hl2
  have h2' : DataW.trod enc Tryz.prog w base spare held m 23 [y2] = some z := h2
  rcases DataW.trod_slice Tryz.underlying23 h2' with ⟨hcs, _⟩ | ⟨a, len, cap, elems, rest, k, hmk, hcs, hz, hb, hlc, hcm, hel, hat, _⟩
  · injection hcs with hcs
    subst hcs
    exact ⟨.mk op num [], none, 0, rfl, exAt_zero _ _ _⟩
  · injection hcs with hcs
    subst hcs
    rw [hz] at hl2
    obtain ⟨hw1, hw2⟩ := Light.slice Tryz.underlying23 hl2
    rw [List.length_map, List.length_map, hel] at hw1
    have hlen2 : len ≤ 17592186044416 := by
      have h1 : len * 8 ≤ (len + rest.length) * Tryz.prog.bytesOf 25 := Nat.mul_le_mul (by omega) bytes_ex
      have h2 : reachBytes = 140737488351232 := rfl
      omega
    rw [cells_ex] at hat
    have hei : ∀ i, i < len → ∃ (q : Ex × Option Addr × Nat), w.cells? base (a.add (i * 3)) 3 = some [.int .i64 q.1.op, .int .i64 q.1.num, .slice q.2.1 q.1.args.length q.2.2] ∧ ExAt w (.agg #[.int .i64 q.1.op, .int .i64 q.1.num, .slice q.2.1 q.1.args.length q.2.2]) q.1 := fun i hi => by
      have hb := hat i hi
      rw [List.getElem?_eq_getElem (show i < elems.length by omega)] at hb
      obtain ⟨cs', hc, htr⟩ := Option.bind_eq_some_iff.1 hb
      obtain ⟨e, p, c, rfl, hE⟩ := ih k (by omega) cs' _ htr (hw2 _ (List.mem_map.2 ⟨elems[i], List.getElem_mem _, rfl⟩))
      exact ⟨(e, p, c), hc, hE⟩
    have hch : ∃ f : Nat → Ex × Option Addr × Nat, ∀ i, i < len → w.cells? base (a.add (i * 3)) 3 = some [.int .i64 (f i).1.op, .int .i64 (f i).1.num, .slice (f i).2.1 (f i).1.args.length (f i).2.2] ∧ ExAt w (.agg #[.int .i64 (f i).1.op, .int .i64 (f i).1.num, .slice (f i).2.1 (f i).1.args.length (f i).2.2]) (f i).1 := by
      refine ⟨fun i => if hh : i < len then Classical.choose (hei i hh) else (default, none, 0), fun i hil => ?_⟩
      simp only [dif_pos hil]
      exact Classical.choose_spec (hei i hil)
    obtain ⟨f, hf⟩ := hch
    have hlr : ((List.range len).map fun i => (f i).1).length = len := by simp
    have hgd : ∀ i, i < len → ((List.range len).map fun i => (f i).1).getD i default = (f i).1 := fun i hi => by
      rw [List.getD_eq_getElem?_getD, List.getElem?_map, List.getElem?_range hi]; rfl
    have hblk : 0 < len → a = ⟨a.block, a.off, none⟩ ∧ a.block < w.heap.size := fun h0 => by
      obtain ⟨_, hcl, hat⟩ := World.cells?_some (hf 0 h0).1
      have hc0 := hat 0 (by decide)
      have ha0 : (a.add (0 * 3)).add 0 = a := by simp [Addr.add]
      rw [ha0] at hc0
      obtain ⟨hb, hs⟩ := cell_lt (v := .int .i64 (f 0).1.op) hc0
      exact ⟨by obtain ⟨b, o, s⟩ := a; simp only at hs; rw [hs], hb⟩
    refine ⟨.mk op num ((List.range len).map fun i => (f i).1), some a, cap, by show _ = [_, _, Value.slice (some a) ((List.range len).map fun i => (f i).1).length cap]; rw [hlr]; rfl, ?_⟩
    refine .mk op num ((List.range len).map fun i => (f i).1) (some a) cap (fun i => .slice (f i).2.1 (f i).1.args.length (f i).2.2) a.block a.off (by rw [hlr]; exact hlc) (by rw [hlr]; exact hlen2) (fun h => by
      rw [hlr] at h
      obtain ⟨h1, h2⟩ := hblk h
      exact ⟨congrArg some h1, h2⟩) (fun i hi => ?_) (fun i hi => ?_)
    · rw [hlr] at hi
      obtain ⟨h1, -⟩ := hblk (by omega)
      obtain ⟨_, hcl, hat⟩ := World.cells?_some (hf i hi).1
      rw [hgd i hi]
      have ad : ∀ j, (a.add (i * 3)).add j = ⟨a.block, a.off + i * 3 + j, none⟩ := fun j => by
        rw [add_none a (by rw [h1]), add_none _ rfl]
      have k0 := hat 0 (by decide)
      have k1 := hat 1 (by decide)
      have k2 := hat 2 (by decide)
      rw [ad] at k0 k1 k2
      exact ⟨k0, k1, k2⟩
    · rw [hlr] at hi
      rw [hgd i hi]
      exact (hf i hi).2
end
section
variable {H : Type} {enc : TypeId × Value → H} {w : World} {base : Nat} {spare : Nat → Bool} {held : Bool}
theorem open_expr {v : Value} {d : DataW H} {p : List MemPlace} {r : Reach} {b0 : Nat} (hv : Value.okWide Tryz.prog w r b0 25 v) (h : DataW.Trod enc Tryz.prog w base spare held 25 v d p) (hl : Light 25 d) : ∃ e, ExAt w v e := by
  obtain ⟨cs, rfl, hsz⟩ := okWide_struct Tryz.underlying25 hv
  obtain ⟨n, h⟩ := h
  obtain ⟨e, q, c, hcs, hE⟩ := open_ex n _ _ h hl
  refine ⟨e, ?_⟩
  have hcs' : cs.toList = [.int .i64 e.op, .int .i64 e.num, .slice q e.args.length c] := hcs
  have : Value.agg cs = .agg #[.int .i64 e.op, .int .i64 e.num, .slice q e.args.length c] := by
    congr 1
    apply Array.toList_inj.1
    rw [hcs']
  rw [this]
  exact hE
theorem open_ints_ {v : Value} {d : DataW H} {p : List MemPlace} {r : Reach} {b0 : Nat} (hv : Value.okWide Tryz.prog w r b0 45 v) (h : DataW.Trod enc Tryz.prog w base spare held 45 v d p) (hl : Light 45 d) : ∃ l, Row icells 1 w v l := by
  obtain ⟨n, h⟩ := h
  obtain ⟨a, len, cap, rfl⟩ := okWide_slice Tryz.underlying45 hv
  obtain ⟨v', xs, hv', hr, _⟩ := open_row (en := icells) (size := 1) Tryz.underlying45 cells_int (by decide) bytes_int (fun _ => rfl) (fun _ _ _ h => open_i h) h hl
  have e : [Value.slice a len cap] = [v'] := hv'
  injection e with e
  subst e
  exact ⟨xs, hr⟩
end
abbrev laidV : List (String × DataW Unit) := [("roundtable/expr.rows", Rows.laid_roundtable_expr_rows)]
theorem gRows : Tryz.prog.globalNamed "roundtable/expr.rows" = some 0 := by kernel_rfl
theorem laid_rows : (Rows.laid_roundtable_expr_rows : DataW Unit) = .agg ((List.range 16).map fun k : Nat => .agg [.lit (.int .i64 (rowAt k 0)), .lit (.int .i64 (rowAt k 1)), .lit (.int .i64 (rowAt k 2))]) := by kernel_rfl
theorem door_met (os : Os) (args : Array Value) : laidMetH Tryz.prog laidV ((World.doorLaid Tryz.prog 400 os).forCall (fun _ _ => 0) ⟨#[], args, []⟩).memory :=
  laidMetH_of_parts3 (fuel := 8) (laidMet_of_run' 8 (by kernel_rfl) (by kernel_rfl)) (by kernel_rfl) (by kernel_rfl)
theorem tRows : (Tryz.prog.globals[0]?).map (·.type) = some 100 := by kernel_rfl
theorem tab_laid {W : World} (h : laidMetH Tryz.prog laidV W) : Tab W := by
  rw [MakeChecks.laidMetH_plain _ _ _ (by kernel_rfl)] at h
  obtain ⟨ps, hh, _, _⟩ := h
  obtain ⟨g0, t0, cs0, f0, p0, q0, hg0, ht0, hv0, hd0, _, _⟩ := hh
  obtain rfl := Option.some.inj (gRows.symm.trans hg0)
  obtain rfl := Option.some.inj (tRows.symm.trans ht0)
  obtain ⟨xs, m, -, hx, hlen, hxl, hel⟩ := DataW.trod_array Tryz.underlying100 hd0
  have hxx : Rows.laid_roundtable_expr_rows = DataW.agg (xs.map (·.1)) := (Prod.mk.inj hx).1
  rw [laid_rows] at hxx
  injection hxx with hxx
  have c117 : Tryz.prog.cellsOf 99 = 3 := by kernel_rfl
  have hcell : ∀ i, W.cell? ⟨0, i, none⟩ = cs0[i]? := World.var?_cell hg0 hv0
  have hrow : ∀ k : Nat, k < 16 → ∀ j : Nat, j < 3 → cs0[k * 3 + j]? = some (.int .i64 (rowAt k j)) := fun k hk j hj => by
    have hk' := hel k hk
    rw [c117] at hk'
    have hxk : xs[k]? = some (xs[k]'(by omega)) := List.getElem?_eq_getElem _
    have hdk : (xs[k]'(by omega)).1 = .agg [.lit (.int .i64 (rowAt k 0)), .lit (.int .i64 (rowAt k 1)), .lit (.int .i64 (rowAt k 2))] := by
      have := congrArg (·[k]?) hxx
      simp only [List.getElem?_map, hxk, List.getElem?_range hk, Option.map_some, Option.some.injEq] at this
      exact this.symm
    rw [hxk] at hk'
    generalize xs[k]'(by omega) = y at hk' hdk
    obtain ⟨ys, m', -, hy, hlen2, hyl, hf⟩ := DataW.trod_struct Tryz.underlying99 hk'
    rw [hy] at hdk
    injection hdk with hdk
    have fin : ∀ (r : Int), ((cs0.toList.drop (k * 3)).take 3).length = 3 → DataW.trod (fun x => ()) Tryz.prog W 0 (fun x => true) false m' 3 ((((cs0.toList.drop (k * 3)).take 3).drop j).take 1) = ys[j]? → (ys.map (·.1))[j]? = some (DataW.lit (.int .i64 r)) → cs0[k * 3 + j]? = some (.int .i64 r) := fun r hl3 ht hd => by
      rw [List.getElem?_map] at hd
      cases hz : ys[j]? with
      | none => rw [hz] at hd; cases hd
      | some z =>
        rw [hz] at hd ht
        simp only [Option.map_some, Option.some.injEq] at hd
        obtain ⟨n, hn, hzn, -⟩ := DataW.trod_int Tryz.underlying3 ht
        rw [hzn] at hd
        have hnr : n = r := by injection hd with hd; injection hd
        have := take_one hn
        rw [List.getElem?_take, if_pos hj, List.getElem?_drop] at this
        rw [← hnr, ← Array.getElem?_toList]
        exact this
    have hl3 : ((cs0.toList.drop (k * 3)).take 3).length = 3 := hlen2.trans c117
    obtain rfl | rfl | rfl : j = 0 ∨ j = 1 ∨ j = 2 := by omega
    · exact fin _ hl3 (hf 0 _ rfl) (by rw [hdk]; rfl)
    · exact fin _ hl3 (hf 1 _ rfl) (by rw [hdk]; rfl)
    · exact fin _ hl3 (hf 2 _ rfl) (by rw [hdk]; rfl)
  refine ⟨?_, fun k hk j hj => (hcell _).trans (hrow k hk j hj)⟩
  exact (cell_lt ((hcell 0).trans (hrow 0 (by decide) 0 (by decide)))).1
end Go.Proofs.YthkididgbaamcaaGreatDoor
