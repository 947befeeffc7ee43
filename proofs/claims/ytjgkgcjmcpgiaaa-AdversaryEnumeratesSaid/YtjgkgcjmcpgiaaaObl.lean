/-
  The program's Oblivious and what it calls.
  Conditions: as each theorem states.
-/
import Derived.Test.YtjgkgcjmcpgiaaaReachQ
namespace Go.Proofs.Ytjgkgcjmcpgiaaa
open Go.RowKit
attribute [local go_sem] Oper.semAt_some

theorem osame_any (a b : Mv) (w : World) : Calls Try.prog 57 #[a.v, b.v] w fun e w' => e = .returned (.bool (req a.r b.r)) ∧ Ext w w' := by
  obtain ⟨⟨⟨n1, a1, b1, c1, d1, e1⟩, f1⟩, t1⟩ := a
  obtain ⟨⟨⟨n2, a2, b2, c2, d2, e2⟩, f2⟩, t2⟩ := b
  have heq := fun W => eql_round n1 a1 b1 c1 d1 e1 f1 n2 a2 b2 c2 d2 e2 f2 W
  dsimp only [Mv.v]
  generalize req ⟨⟨n1, a1, b1, c1, d1, e1⟩, f1⟩ ⟨⟨n2, a2, b2, c2, d2, e2⟩, f2⟩ = r at heq ⊢
  go_enter Try.func57, Try.ntmps57
  go_wp2_with fail
  go_ret
  exact ⟨rfl, ((Ext.refl w).alloc _).alloc _⟩
/-- The same rounds, one after the other. -/
def rdsEq (a b : List Mv) : Bool := decide (a.map (·.r) = b.map (·.r))
theorem rdsEq_len {a b : List Mv} (h : a.length ≠ b.length) : rdsEq a b = false := decide_eq_false fun he => h (by have := congrArg List.length he; simpa using this)
theorem rdsEq_at {a b : List Mv} {i : Nat} (ha : i < a.length) (hb : i < b.length) (h : req (a.getD i default).r (b.getD i default).r = false) : rdsEq a b = false := decide_eq_false fun he => by
  have h1 : (a.map (·.r))[i]? = (b.map (·.r))[i]? := by rw [he]
  rw [List.getElem?_map, List.getElem?_map, List.getElem?_eq_getElem ha, List.getElem?_eq_getElem hb] at h1
  rw [List.getD_eq_getElem?_getD, List.getD_eq_getElem?_getD, List.getElem?_eq_getElem ha, List.getElem?_eq_getElem hb] at h
  simp only [Option.map_some, Option.some.injEq, Option.getD_some] at h1 h
  rw [req_iff.2 h1] at h; cases h
theorem rdsEq_all {a b : List Mv} (hl : a.length = b.length) (h : ∀ i, i < a.length → req (a.getD i default).r (b.getD i default).r = true) : rdsEq a b = true := decide_eq_true (by
  apply List.ext_getElem
  · simp [hl]
  · intro i h1 h2
    have ha : i < a.length := by simpa using h1
    have h3 := h i ha
    rw [List.getD_eq_getElem?_getD, List.getD_eq_getElem?_getD, List.getElem?_eq_getElem ha, List.getElem?_eq_getElem (by omega)] at h3
    simpa using req_iff.1 h3)

set_option maxHeartbeats 2000000 in
theorem eqfunc_any (u v : Value) (a b : List Mv) (w : World) (ha : Row Mv.cells 8 w u a) (hb : Row Mv.cells 8 w v b) :
    Calls Try.prog 58 #[u, v, .func (.func 57) #[] #[]] w fun e w' => e = .returned (.bool (rdsEq a b)) ∧ Ext w w' := by
  obtain ⟨p, c, rfl, hc, hla, hat⟩ := ha.mv_all
  obtain ⟨q, d, rfl, hd, hlb, hbt⟩ := hb.mv_all
  have HAT := hide hat
  have HBT := hide hbt
  clear hat hbt ha hb
  by_cases hl : a.length = b.length
  · have HBAD := hide (fun i h1 h2 h => rdsEq_at (a := a) (b := b) (i := i) h1 h2 h)
    have HOK := hide (rdsEq_all (a := a) (b := b) hl)
    generalize rdsEq a b = res at HBAD HOK ⊢
    generalize hn : b.length = n at *
    have HL := hide hl
    rw [hl] at hc hla ⊢
    have HN := hide hn
    clear hl hn
    go_enter Try.func58, Try.ntmps58
    go_wp2_with fail
    go_loopw [17] (fun x wr => ∃ i : Nat, i ≤ n ∧ x = .int .i64 i ∧ (∀ j, j < i → req (a.getD j default).r (b.getD j default).r = true) ∧ Ext w wr) (fun x _ => n - (intOf x).toNat)
    case atStart => exact ⟨0, by omega, rfl, fun j hj => by omega, Ext.refl _⟩
    case round =>
      obtain ⟨i, hi, rfl, hz, hE⟩ := hrel
      have HZ := hide hz
      clear hz
      by_cases hlt : i < n
      · have hLa := HL.out
        obtain ⟨b1, o1, rfl, hb1, hm1⟩ := HAT.out (by omega)
        obtain ⟨b2, o2, rfl, hb2, hm2⟩ := HBT.out (by have := HN.out; omega)
        obtain ⟨x0, x1, x2, x3, x4, x5, x6, x7⟩ := hm1 i (by omega)
        obtain ⟨y0, y1, y2, y3, y4, y5, y6, y7⟩ := hm2 i (by have := HN.out; omega)
        clear hm1 hm2
        have hB : req (a.getD i default).r (b.getD i default).r = false → res = false := fun h => HBAD.out i (by omega) (by have := HN.out; omega) h
        have hS := fun W => osame_any (a.getD i default) (b.getD i default) W
        have HG : Hid (req (a.getD i default).r (b.getD i default).r = true → ∀ j, j < i + 1 → req (a.getD j default).r (b.getD j default).r = true) := fun h j hj => by
          rcases Nat.lt_or_ge j i with h7 | h7
          · exact HZ.out j h7
          · obtain rfl : j = i := by omega
            exact h
        generalize req (a.getD i default).r (b.getD i default).r = r at hB hS HG
        generalize a.getD i default = m1 at x0 x1 x2 x3 x4 x5 x6 x7 hS
        generalize b.getD i default = m2 at y0 y1 y2 y3 y4 y5 y6 y7 hS
        obtain ⟨⟨⟨n1, a1, bb1, c1, d1, e1⟩, f1⟩, t1⟩ := m1
        obtain ⟨⟨⟨n2, a2, bb2, c2, d2, e2⟩, f2⟩, t2⟩ := m2
        dsimp only [Mv.v] at x0 x1 x2 x3 x4 x5 x6 x7 y0 y1 y2 y3 y4 y5 y6 y7 hS
        have HBB := hide hB
        have HSS := hide hS
        clear hB hS hLa
        go_wp2_with fail
        refine (HSS.out _).mono ?_
        rintro e w3 ⟨rfl, hE3⟩
        have hE4 : Ext w w3 := ((hE.alloc _).alloc _).trans hE3
        cases r with
        | true =>
          go_wp2_with fail
          exact ⟨⟨i + 1, by omega, by simp, HG.out (by trivial), hE4⟩, by simp [intOf]; try omega⟩
        | false =>
          have HR := hide (HBB.out rfl)
          clear HBB
          go_wp2_with fail
          go_ret
          exact ⟨ret_bool HR.out.symm, hE4⟩
      · obtain rfl : i = n := by omega
        go_wp2_with fail
        go_ret
        exact ⟨ret_bool (HOK.out (fun j hj => HZ.out j (by have := HL.out; omega))).symm, hE⟩
  · rw [rdsEq_len hl]
    have hln : ((a.length : Int) != b.length) = true := by simp; omega
    clear hl
    go_enter Try.func58, Try.ntmps58
    go_wp2_with fail
    go_ret
    exact ⟨rfl, Ext.refl _⟩
end Go.Proofs.Ytjgkgcjmcpgiaaa
