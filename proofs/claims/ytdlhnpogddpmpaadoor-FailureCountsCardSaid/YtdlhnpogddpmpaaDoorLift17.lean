/-
  What a law of layer 17 is lifted by, whose tables are tied: the tables read.
  Conditions: none.
-/
import Derived.Test.YtdlhnpogddpmpaaDoorOpenB
import Derived.Test.YtdlhnpogddpmpaaDoorTzMem
import Derived.LaidMore
import Derived.Stop.Joined
import Derived.HandedShaped
import Derived.Shelf.LaysM
import Derived.OpenVars
import Derived.Lay
namespace Go.Proofs.YtdlhnpogddpmpaaDoor
open Go.ChangeShapes Go.WideShapes Go.ChangeAt Go.RowKit Go.Deep

set_option maxRecDepth 100000
abbrev laidV : List (String × DataW Unit) := [("math/bits.deBruijn32tab", Rows.laid_math_bits_deBruijn32tab), ("math/bits.deBruijn64tab", Rows.laid_math_bits_deBruijn64tab)]
theorem all_met (os : Os) (args : Array Value) : laidMetH Tryd.prog laidV ((World.laidAll Tryd.prog os laidV).forCall (fun _ _ => 0) ⟨#[], args, []⟩).memory := by
  rw [MakeChecks.laidMetH_plain _ _ _ (by kernel_rfl)]; exact laidMet_laidAll _ (by kernel_rfl) (by kernel_rfl)
theorem g64 : Tryd.prog.globalNamed "math/bits.deBruijn64tab" = some 1 := by kernel_rfl
theorem t64 : (Tryd.prog.globals[1]?).map (·.type) = some 118 := by kernel_rfl
theorem laid64 : (Rows.laid_math_bits_deBruijn64tab : DataW Unit) = .agg ((List.range 64).map fun k : Nat => .lit (.int .u8 ((Lib.deBruijn64tab.getD k 0 : Nat) : Int))) := by kernel_rfl
theorem tz_laid {W : World} (h : laidMetH Tryd.prog laidV W) : Tz W := by
  rw [MakeChecks.laidMetH_plain _ _ _ (by kernel_rfl)] at h
  obtain ⟨ps, hh, _, _⟩ := h
  obtain ⟨g0, t0, cs0, f0, p0, q0, _, _, _, _, hr, _⟩ := hh
  obtain ⟨g1, t1, cs1, f1, p1, q1, hg1, ht1, hv1, hd1, _, _⟩ := hr
  obtain rfl := Option.some.inj (g64.symm.trans hg1)
  obtain rfl := Option.some.inj (t64.symm.trans ht1)
  obtain ⟨xs, m, -, hx, hlen, hxl, hel⟩ := DataW.trod_array Tryd.underlying118 hd1
  have hxx : Rows.laid_math_bits_deBruijn64tab = DataW.agg (xs.map (·.1)) := (Prod.mk.inj hx).1
  rw [laid64] at hxx
  injection hxx with hxx
  have c5 : Tryd.prog.cellsOf 5 = 1 := by kernel_rfl
  have hcell : ∀ i, W.cell? ⟨1, i, none⟩ = cs1[i]? := World.var?_cell hg1 hv1
  have hrow : ∀ k : Nat, k < 64 → cs1[k]? = some (.int .u8 ((Lib.deBruijn64tab.getD k 0 : Nat) : Int)) := fun k hk => by
    have hk' := hel k hk
    rw [c5, Nat.mul_one] at hk'
    have hxk : xs[k]? = some (xs[k]'(by omega)) := List.getElem?_eq_getElem _
    have hdk : (xs[k]'(by omega)).1 = .lit (.int .u8 ((Lib.deBruijn64tab.getD k 0 : Nat) : Int)) := by
      have := congrArg (·[k]?) hxx
      simp only [List.getElem?_map, hxk, List.getElem?_range hk, Option.map_some, Option.some.injEq] at this
      exact this.symm
    rw [hxk] at hk'
    generalize xs[k]'(by omega) = y at hk' hdk
    obtain ⟨n, hn, hzn, -⟩ := DataW.trod_int Tryd.underlying5 hk'
    rw [hzn] at hdk
    have hnr : n = ((Lib.deBruijn64tab.getD k 0 : Nat) : Int) := by injection hdk with hd; injection hd
    have := take_one hn
    rw [← hnr, ← Array.getElem?_toList]
    exact this
  exact ⟨(cell_lt ((hcell 0).trans (hrow 0 (by decide)))).1, fun k hk => (hcell k).trans (hrow k hk)⟩
/-- The kit's two wraps in one: with a fact on the memory, and with the world's shape. -/
theorem handed_both {H : Type} {enc : TypeId × Value → H} {a : Assume} {C : Checked} {os : Os} {f : FuncId} {fn : Func} {s : ChangeSpec} {conds : List PathCond} {apart fresh handsOn again : Bool} {X : World → Array Value → Prop}
    (hX : ∀ (w w' : World) (args : Array Value), w.heap = w'.heap → X w args → X w' args)
    (own : ownKnob C.prog.godebug = none) (started : os.Started) (noInit : C.prog.inits.idxOf? f = none) (hfn : C.prog.funcs[f]? = some fn)
    (witness : ∃ (w : World) (tape : Tape) (i : Input), w.os = os ∧ (w.forCall tape i).Shaped C.prog ∧ i.vars = [] ∧ Input.okWide C.prog (w.forCall tape i) .any w.heap.size f i ∧
      ((s.pre enc C.prog fn conds apart (w.forCall tape i).memory i.args ∧ X (w.forCall tape i).memory i.args) ∧ sizedMet enc C.prog fn (OpenSpec.ofChange s) apart (w.forCall tape i).memory i.args) ∧ a.holds C.prog (lone (Frame.enter C.prog f i.args .normal) [] (w.forCall tape i)))
    (contract : ∀ (W : World) (base : Nat) (args : Array Value) (ds gs : List (DataW H)) (before : List MemPlace),
      (∀ (j : Nat) t v, fn.params[j]? = some t → args[j]? = some v → Value.okWide C.prog W .any base t v) →
      DataW.Whole enc C.prog fn.params.toList s.vars apart W args.toList ds gs before →
      conds.all (PathCond.test C.prog ⟨fn.params.toList, ds, s.plain.varTypes C.prog, gs⟩) = true →
      (DataW.weightsEach C.prog (fn.params.toList ++ s.plain.varTypes C.prog) (ds ++ gs)).all (· ≤ reachBytes) = true → X W args → W.ShapedOpen C.prog →
      a.holds C.prog (lone (Frame.enter C.prog f args .normal) [] W) →
      Calls C.prog f args W fun e W' => ∃ v, e = .returned v ∧ s.post enc C.prog fn apart fresh handsOn again W args v W') :
    ReturnsInHanded a C os f .any (fun w args => (s.pre enc C.prog fn conds apart w args ∧ X w args) ∧ sizedMet enc C.prog fn (OpenSpec.ofChange s) apart w args) (s.post enc C.prog fn apart fresh handsOn again) := by
  refine returnsInHanded_of_calls own started noInit witness ?_
  intro w tape i _ hsh _ hok hpre hholds
  obtain ⟨_, _, _, fn', hfn', _, _, _, _, hval⟩ := hok
  have e : fn' = fn := Option.some.inj (hfn'.symm.trans hfn)
  subst e
  obtain ⟨⟨⟨ds, gs, before, hw, hc⟩, hx⟩, hz⟩ := hpre
  have hw' := DataW.Whole.of_heap (w' := w.forCall tape i) (by rfl) hw
  refine (contract (w.forCall tape i) w.heap.size i.args ds gs before hval hw' hc (hz.weights hw) (hX _ _ _ (by rfl) hx) hsh hholds).mono fun e W' ⟨v, he, hp⟩ => ?_
  subst he
  exact ChangeSpec.post_blind hp
end Go.Proofs.YtdlhnpogddpmpaaDoor
