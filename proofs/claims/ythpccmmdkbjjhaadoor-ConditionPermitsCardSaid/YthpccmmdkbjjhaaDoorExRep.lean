/-
  How an expression lies in the heap.
  Conditions: none.
-/
import Derived.Test.YthpccmmdkbjjhaaDoorEx
import Derived.Test.YthpccmmdkbjjhaaDoorRep
namespace Go.Proofs.YthpccmmdkbjjhaaDoor

inductive ExAt (w : World) : Value → Ex → Prop
  | mk (op num : Int) (xs : List Ex) (p : Option Addr) (c : Nat) (ss : Nat → Value) (b o : Nat) (hc : xs.length ≤ c) (hl : xs.length ≤ 17592186044416)
    (hp : 0 < xs.length → p = some ⟨b, o, none⟩ ∧ b < w.heap.size)
    (hcell : ∀ i, i < xs.length → w.cell? ⟨b, o + i * 3, none⟩ = some (.int .i64 (xs.getD i default).op) ∧ w.cell? ⟨b, o + i * 3 + 1, none⟩ = some (.int .i64 (xs.getD i default).num) ∧ w.cell? ⟨b, o + i * 3 + 2, none⟩ = some (ss i))
    (hsub : ∀ i, i < xs.length → ExAt w (.agg #[.int .i64 (xs.getD i default).op, .int .i64 (xs.getD i default).num, ss i]) (xs.getD i default)) :
    ExAt w (.agg #[.int .i64 op, .int .i64 num, .slice p xs.length c]) (.mk op num xs)
theorem ExAt.ext {w W : World} {v : Value} {e : Ex} (h : ExAt w v e) (hE : Ext w W) : ExAt W v e := by
  induction h with
  | mk op num xs p c ss b o hc hl hp hcell hsub ih =>
    refine .mk op num xs p c ss b o hc hl (fun h => ⟨(hp h).1, Nat.lt_of_lt_of_le (hp h).2 hE.size⟩) (fun i hi => ?_) ih
    obtain ⟨h1, h2, h3⟩ := hcell i hi
    have hb := (hp (by omega)).2
    exact ⟨(hE.cell hb).trans h1, (hE.cell hb).trans h2, (hE.cell hb).trans h3⟩
theorem ExAt.form {w : World} {v : Value} {e : Ex} (h : ExAt w v e) : ∃ p c, v = .agg #[.int .i64 e.op, .int .i64 e.num, .slice p e.args.length c] ∧ e.args.length ≤ c ∧ e.args.length ≤ 17592186044416 := by
  cases h with
  | mk op num xs p c ss b o hc hl hp hcell hsub => exact ⟨p, c, rfl, hc, hl⟩
/-- The three cells of an expression at an address, in every later world. -/
def ExCell (w : World) (b k : Nat) (e : Ex) (q : Option Addr) (d : Nat) : Prop :=
  (∀ W, Ext w W → W.cell? ⟨b, k, none⟩ = some (.int .i64 e.op)) ∧ (∀ W, Ext w W → W.cell? ⟨b, k + 1, none⟩ = some (.int .i64 e.num)) ∧ (∀ W, Ext w W → W.cell? ⟨b, k + 2, none⟩ = some (.slice q e.args.length d))
theorem ExAt.all_ {w : World} {v : Value} {e : Ex} (h : ExAt w v e) : ∃ p c, v = .agg #[.int .i64 e.op, .int .i64 e.num, .slice p e.args.length c] ∧ e.args.length ≤ c ∧ e.args.length ≤ 17592186044416 ∧
    (0 < e.args.length → ∃ b o, p = some ⟨b, o, none⟩ ∧ b < w.heap.size ∧ ∀ i, i < e.args.length → ∃ q d, ExCell w b (o + i * 3) (e.args.getD i default) q d ∧
      ExAt w (.agg #[.int .i64 (e.args.getD i default).op, .int .i64 (e.args.getD i default).num, .slice q (e.args.getD i default).args.length d]) (e.args.getD i default)) := by
  cases h with
  | mk op num xs p c ss b o hc hl hp hcell hsub =>
    refine ⟨p, c, rfl, hc, hl, fun h0 => ⟨b, o, (hp h0).1, (hp h0).2, fun i hi => ?_⟩⟩
    obtain ⟨h1, h2, h3⟩ := hcell i hi
    have hb := (hp h0).2
    have hs := hsub i hi
    obtain ⟨q, d, hv, -⟩ := hs.form
    have hv2 : ss i = .slice q (xs.getD i default).args.length d := by injection hv with hv; injection hv with hv; injection hv with _ hv; injection hv with _ hv; injection hv with hv _
    rw [hv2] at hs h3
    exact ⟨q, d, ⟨fun W hE => (hE.cell hb).trans h1, fun W hE => (hE.cell hb).trans h2, fun W hE => (hE.cell hb).trans h3⟩, hs⟩
end Go.Proofs.YthpccmmdkbjjhaaDoor
