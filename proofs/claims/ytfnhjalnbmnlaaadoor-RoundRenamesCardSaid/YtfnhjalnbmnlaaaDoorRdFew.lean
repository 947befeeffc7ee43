/-
  Short words (the reference's Few, the law's few and good), and '==' of rounds.
  Conditions: none.
-/
import Derived.Test.YtfnhjalnbmnlaaaDoorRdPrm
import Derived.Test.YtfnhjalnbmnlaaaDoorWordA
namespace Go.Proofs.YtfnhjalnbmnlaaaDoor
open Go.RowKit
attribute [local go_sem] Oper.semAt_some

theorem eql_rd (x y : Rd) (W : World) : (binOp .eql 26 x.v y.v).run Tryd.prog W = .ok (.bool (decide (x = y))) W := by
  have h := eql_round x.g.n x.g.h0 x.g.h1 x.g.h2 x.g.h3 x.g.h4 x.f y.g.n y.g.h0 y.g.h1 y.g.h2 y.g.h3 y.g.h4 y.f W
  rw [show req ⟨⟨x.g.n, x.g.h0, x.g.h1, x.g.h2, x.g.h3, x.g.h4⟩, x.f⟩ ⟨⟨y.g.n, y.g.h0, y.g.h1, y.g.h2, y.g.h3, y.g.h4⟩, y.f⟩ = decide (x = y) from by rw [Bool.eq_iff_iff, req_iff, decide_eq_true_iff]] at h
  exact h
theorem eqg_rd (x : Gr) (W : World) : (binOp .eql 24 x.v x.v).run Tryd.prog W = .ok (.bool true) W := by
  have h := eql_graph x.n x.h0 x.h1 x.h2 x.h3 x.h4 x.n x.h0 x.h1 x.h2 x.h3 x.h4 W
  rw [geq_iff.2 rfl] at h
  exact h
theorem neqg_rd (x : Gr) (W : World) : (binOp .neq 24 x.v x.v).run Tryd.prog W = .ok (.bool false) W := by
  have h := neq_graph x.n x.h0 x.h1 x.h2 x.h3 x.h4 x.n x.h0 x.h1 x.h2 x.h3 x.h4 W
  rw [geq_iff.2 rfl] at h
  exact h
theorem rrdfew_any (l : List Rd) (p : Option Addr) (c : Nat) (w : World) : Calls Tryd.prog 43 #[.slice p l.length c] w fun e w' => e = .returned (.bool (decide (l.length ≤ 12))) ∧ w' = w := by
  by_cases h : l.length ≤ 12
  · have hd : decide ((l.length : Int) ≤ 12) = true := by simp; omega
    rw [decide_eq_true h]
    clear h
    go_enter Tryd.func43, Tryd.ntmps43
    go_wp2_with fail
    go_ret
    exact ⟨rfl, rfl⟩
  · have hd : decide ((l.length : Int) ≤ 12) = false := by simp; omega
    rw [decide_eq_false h]
    clear h
    go_enter Tryd.func43, Tryd.ntmps43
    go_wp2_with fail
    go_ret
    exact ⟨rfl, rfl⟩
def fewB (l : List Rd) : Bool := decide (l.length ≤ 12) || (decide (1024 < l.length) && decide (l.length ≤ 1026))
theorem rdfew_any (l : List Rd) (p : Option Addr) (c : Nat) (w : World) : Calls Tryd.prog 14 #[.slice p l.length c] w fun e w' => e = .returned (.bool (fewB l)) ∧ w' = w := by
  have HF := hide (fun W => rrdfew_any l p c W)
  unfold fewB
  by_cases h : l.length ≤ 12
  · rw [decide_eq_true h] at HF ⊢
    clear h
    go_enter Tryd.func14, Tryd.ntmps14
    go_wp2_with fail
    refine (HF.out _).mono ?_
    rintro e w1 ⟨rfl, rfl⟩
    go_wp2_with fail
    go_ret
    exact ⟨rfl, rfl⟩
  · rw [decide_eq_false h] at HF ⊢
    clear h
    by_cases h2 : 1024 < l.length
    · have hd : (1024 : Int) < (l.length : Int) := by omega
      rw [decide_eq_true h2]
      by_cases h3 : l.length ≤ 1026
      · have hd3 : decide ((l.length : Int) ≤ 1026) = true := by simp; omega
        rw [decide_eq_true h3]
        clear h2 h3
        go_enter Tryd.func14, Tryd.ntmps14
        go_wp2_with fail
        refine (HF.out _).mono ?_
        rintro e w1 ⟨rfl, rfl⟩
        go_wp2_with fail
        go_ret
        exact ⟨rfl, rfl⟩
      · have hd3 : decide ((l.length : Int) ≤ 1026) = false := by simp; omega
        rw [decide_eq_false h3]
        clear h2 h3
        go_enter Tryd.func14, Tryd.ntmps14
        go_wp2_with fail
        refine (HF.out _).mono ?_
        rintro e w1 ⟨rfl, rfl⟩
        go_wp2_with fail
        go_ret
        exact ⟨rfl, rfl⟩
    · have hd : ¬ (1024 : Int) < (l.length : Int) := by omega
      rw [decide_eq_false h2]
      clear h2
      go_enter Tryd.func14, Tryd.ntmps14
      go_wp2_with fail
      refine (HF.out _).mono ?_
      rintro e w1 ⟨rfl, rfl⟩
      go_wp2_with fail
      go_ret
      exact ⟨rfl, rfl⟩
def goodB (n : Int) (l : List Rd) : Bool := decide (l.length ≤ 12 ∧ wordE n l = 0)
theorem rdgood_any (n : Int) (l : List Rd) (u : Value) (w : World) (hu : Row Rd.cells 7 w u l) : Calls Tryd.prog 28 #[.int .i64 n, u] w fun e w' => e = .returned (.bool (goodB n l)) ∧ Ext w w' := by
  have HW := hide (fun W (hE : Ext w W) => rword_any n l u W (hu.ext hE))
  obtain ⟨p, c, rfl, hc, hlen, -⟩ := hu.rd_all
  have HF := hide (fun W => rrdfew_any l p c W)
  clear hu
  unfold goodB
  by_cases h : l.length ≤ 12
  · rw [decide_eq_true h] at HF
    by_cases h0 : wordE n l = 0
    · rw [decide_eq_true (⟨h, h0⟩ : l.length ≤ 12 ∧ wordE n l = 0)]
      rw [h0] at HW
      clear h h0
      go_enter Tryd.func28, Tryd.ntmps28
      go_wp2_with fail
      refine (HF.out _).mono ?_
      rintro e w1 ⟨rfl, rfl⟩
      go_wp2_with fail
      refine (HW.out _ (Ext.refl _)).mono ?_
      rintro e w2 ⟨rfl, hE⟩
      have HE := hide hE
      clear hE
      go_wp2_with fail
      go_ret
      exact ⟨rfl, HE.out⟩
    · rw [decide_eq_false (fun k => h0 k.2)]
      have hd : (wordE n l == 0) = false := by simp [h0]
      generalize wordE n l = x at HW hd
      clear h h0
      go_enter Tryd.func28, Tryd.ntmps28
      go_wp2_with fail
      refine (HF.out _).mono ?_
      rintro e w1 ⟨rfl, rfl⟩
      go_wp2_with fail
      refine (HW.out _ (Ext.refl _)).mono ?_
      rintro e w2 ⟨rfl, hE⟩
      have HE := hide hE
      clear hE
      go_wp2_with fail
      go_ret
      exact ⟨rfl, HE.out⟩
  · rw [decide_eq_false h] at HF
    rw [decide_eq_false (fun k => h k.1)]
    clear h
    go_enter Tryd.func28, Tryd.ntmps28
    go_wp2_with fail
    refine (HF.out _).mono ?_
    rintro e w1 ⟨rfl, rfl⟩
    go_wp2_with fail
    go_ret
    exact ⟨rfl, Ext.refl _⟩
end Go.Proofs.YtfnhjalnbmnlaaaDoor
