/-
  Regions that draw their order, in a round of a range over a function; maps.
  Conditions: none.
-/
import Derived.Test.YthpccmmdkbjjhaaDoorOwned
import Derived.StillTailTactics
import Derived.OrdersIn
import Derived.MapKept
import Derived.Carry
namespace Go.Proofs.YthpccmmdkbjjhaaDoor
open Go.RowKit

/-- Q at its plain end alone. -/
def Plainly (Q : Exit → Act → World → Prop) : Exit → Act → World → Prop := fun e a w => e = .normal ∧ Q .normal a w
def noDefer (l : List Oper) : Bool := l.all fun o => match o.op with | .defer _ => false | _ => true
theorem noDefer_at {l : List Oper} (h : noDefer l = true) {i : Nat} {o : Oper} (ho : l.toArray[i]? = some o) : ∀ c, o.op ≠ .defer c := by
  intro c
  unfold noDefer at h
  rw [List.all_eq_true] at h
  have hm : o ∈ l := by simpa using List.mem_iff_getElem?.2 ⟨i, by simpa using ho⟩
  have := h o hm
  intro he
  rw [he] at this
  cases this
theorem wpIn_of_plain {P : Program} {o : Oper} {l : Nat} {Q : Exit → Act → World → Prop} {K K' : Act → World → Prop} {a : Act} {w : World} (hd : ∀ c, o.op ≠ .defer c) (hK : ∀ a w, K a w → K' a w) (h : o.wp P a w K (Plainly Q)) :
    o.wpIn (Fence.wide.inRound l) 0 P a w K' Q := by
  refine ⟨fun _ _ => trivial, ?_⟩
  rw [Oper.semAt_eq _ _ _ hd]
  unfold Oper.wp at h
  generalize (execOp a.eval o).run P w = r at h ⊢
  cases r with
  | ok x w' =>
    cases x with
    | enter f args =>
      refine ⟨fun hh => by simp [Fence.wide] at hh, CallsIn.inRound l ((callsIn_wide (n := 0)).2 (Calls.mono h ?_))⟩
      intro e w2 he
      cases e with
      | returned v => exact hK _ _ he
      | panicked ch => exact absurd he.1 (by simp)
      | outgrown => obtain ⟨_, _, he, _⟩ := he; cases he
    | row row args =>
      refine ⟨fun hh => by simp [Fence.wide] at hh, fun c cs _ => ?_⟩
      obtain ⟨v, w2, hr, hs⟩ := h c cs
      exact ⟨v, w2, hK _ _ hr, stepsIn_wide.2 hs⟩
    | value v => exact hK _ _ h
    | skip => exact hK _ _ h
    | defer d => exact hK _ _ h
    | _ => exact h.elim
  | halt x w' =>
    cases x with
    | panic v => exact absurd h.1 (by simp)
    | _ => exact h.elim
theorem wpOpIn_of_plain {P : Program} {L : List Oper} {l i : Nat} {Q : Exit → Act → World → Prop} {K K' : Act → World → Prop} {a : Act} {w : World} (hd : noDefer L = true) (hK : ∀ a w, K a w → K' a w) (h : wpOp P L.toArray (Plainly Q) i K a w) :
    wpOpIn (Fence.wide.inRound l) 0 P L.toArray Q i K' a w := by
  unfold wpOp at h
  unfold wpOpIn
  split
  · rename_i ho
    simp only [ho] at h
    exact hK _ _ h
  · rename_i o ho
    simp only [ho] at h
    split
    · rename_i hw
      simp only [hw, if_true] at h
      rcases h with h | ⟨_, h⟩
      · exact wpIn_of_plain (noDefer_at hd ho) hK h
      · obtain ⟨_, _, he, _⟩ := h; cases he
    · rename_i hw
      simp only [hw] at h
      exact ⟨fun _ _ => trivial, hK _ _ h⟩
theorem wpAnyIn_of_plain {P : Program} {L : List Oper} {l : Nat} {md : Region.Mode} {Q : Exit → Act → World → Prop} (hd : noDefer L = true) : ∀ (fuel : Nat) (listed : Array Bool) (a : Act) (w : World),
    wpAny P md L.toArray (Plainly Q) fuel listed a w → wpAnyIn (Fence.wide.inRound l) 0 P md L.toArray Q fuel listed a w
  | 0, _, _, _, h => ⟨h.1, h.2.2⟩
  | fuel + 1, _, _, _, h => ⟨fun h0 => (h.1 h0).2, fun i hi => wpOpIn_of_plain hd (fun a' w' h' => wpAnyIn_of_plain hd fuel _ a' w' h') (h.2 i hi)⟩
/-- Reads in any order, and behind them a tail in the text's order. -/
theorem wpAny_tail {P : Program} {Q : Exit → Act → World → Prop} {a : Act} {w : World} {L : List Oper} (n : Nat) (hB : Region.lexTailB .any L.toArray n = true)
    (h : wpStill P L.toArray w (fun a' => wpList P L.toArray Q (L.drop n) a' w) (L.take n) a) : wpAny P .any L.toArray Q L.toArray.size (Array.replicate L.toArray.size false) a w := by
  simp only [Region.lexTailB, Bool.and_eq_true, decide_eq_true_eq] at hB
  obtain ⟨⟨⟨⟨hsel, hn⟩, hs⟩, hc⟩, hlex⟩ := hB
  have hn' : n < L.length := by simpa using hn
  have e1 : (L.take n).length = n := by simp; omega
  have e2 : (L.drop n).length = L.toArray.size - n := by simp
  have hd := wpAnyL_lex (md := .any) (g := L.toArray.size - n) hsel hs hc hn (L.take n) 0 (Array.replicate L.toArray.size false) a
    (fun j hj => by rw [e1] at hj; simp [hj]) (by simpa using e1)
    ⟨by simp, fun j oj _ hl => (by rw [getD_replicate_false] at hl; cases hl), fun t _ ht => getD_in (by simpa using ht) (getD_replicate_false _ _)⟩ (by rw [e1]; exact hlex) h
  have hx := wpAny_of_head (Q' := Q) (g := L.toArray.size - n) (fun listed a' hL => by
    have hy := wpAny_of_seq (md := .any) (Q' := Q) (L.drop n) n listed a' w (fun j => by simp [List.getElem?_drop]) (by rw [e2]; exact hL.1) hL.2
    rwa [e2] at hy) _ _ _ hd
  rw [e1, show n + (L.toArray.size - n) = L.toArray.size by omega] at hx
  exact hx
theorem wpIn_round_tail {P : Program} {l id : Nat} {Q : Exit → Act → World → Prop} {a : Act} {w : World} {L : List Oper} (n : Nat) (hm : P.follows .mixedOrders = true) (hB : Region.lexTailB .any L.toArray n = true) (hd : noDefer L = true)
    (h : ∀ W, W = w.drew → wpStill P L.toArray W (fun a' => wpList P L.toArray (Plainly Q) (L.drop n) a' W) (L.take n) a) : (Code.region id L.toArray true).wpIn (Fence.wide.inRound l) 0 P Q a w :=
  wpIn_region_any hm (wpAnyIn_of_plain hd _ _ _ _ (wpAny_tail n hB (h _ rfl)))
end Go.Proofs.YthpccmmdkbjjhaaDoor
