/-
  Graphs that are composed, joined, reversed, made whole (graph.Compose, Union, Reverse, Complete, Silent).
  Conditions: the table of math/bits lies in the heap (Tz), where products are made.
-/
import Derived.Test.YtfnhjalnbmnlaaaDoorTzMem
namespace Go.Proofs.YtfnhjalnbmnlaaaDoor
open Go.RowKit
attribute [local go_sem] Oper.semAt_some

/-- A graph and an error are returned. -/
def RetG (x : Gr × Int) (w : World) (e : Ending) (w' : World) : Prop := e = .returned (.tuple #[x.1.v, .int .i64 x.2]) ∧ Ext w w'
/-- A value and an error are returned. -/
def RetV1 (x : Value × Int) (w : World) (e : Ending) (w' : World) : Prop := e = .returned (.tuple #[x.1, .int .i64 x.2]) ∧ Ext w w'
theorem withE_err {e : Int} {g : Gr} (h : e ≠ 0) : withE e g = (gz0, e) := if_pos h
theorem shr1 {x p : Nat} (hx : x < 32) : bits .and .i64 ((x : Int) / 2 ^ p) 1 = ((x >>> p &&& 1 : Nat) : Int) := by
  rw [show ((x : Int) / 2 ^ p) = ((x >>> p : Nat) : Int) by rw [Nat.shiftRight_eq_div_pow]; simp]
  have : x >>> p ≤ x := Nat.shiftRight_le x p
  exact i64_and_nat _ 1 (by omega) (by omega)
theorem shl_bit (c : Bool) (k : Nat) (hk : k ≤ 5) : wrap64 (((if c then 1 else 0 : Nat) : Int) * 2 ^ k) = ((if c then 2 ^ k else 0 : Nat) : Int) := by
  obtain rfl | rfl | rfl | rfl | rfl | rfl : k = 0 ∨ k = 1 ∨ k = 2 ∨ k = 3 ∨ k = 4 ∨ k = 5 := by omega
  all_goals (cases c <;> kernel_rfl)
set_option maxHeartbeats 1000000 in
theorem compose_any (a b : Gr) (w : World) (hT : Tz w) : Calls Tryd.prog 29 #[a.v, b.v] w (RetG (composeS a b) w) := by
  have HB := hide (fun W => gboth_any a b W)
  have HZ := hide (fun h : bothS a b ≠ 0 => show composeS a b = (gz0, bothS a b) from withE_err h)
  have HO := hide (fun h : bothS a b = 0 => show composeS a b = (compG a b, 0) from by unfold composeS; rw [h]; rfl)
  have HW := hide (fun h : bothS a b = 0 => bothS_ok h)
  have HP := hide (fun n W (hE : Ext w W) ha hb => product_any (n := n) a b ha hb W (hT.ext hE))
  generalize composeS a b = res at HZ HO ⊢
  generalize bothS a b = e at HB HZ HO HW
  clear hT
  go_enter Tryd.func29, Tryd.ntmps29
  go_wp2_with fail
  have HT := hide (Three.mk_ w a b)
  refine (HB.out _).mono ?_
  rintro r w1 ⟨rfl, hE⟩
  have HT := hide (HT.out.ext_ hE)
  clear hE
  by_cases he : e = 0
  case neg =>
    have hd : (e != 0) = true := by simp [he]
    have HR := hide (HZ.out he)
    clear he
    obtain ⟨g, hg⟩ := HT.out.c
    obtain ⟨d0, d1, d2, d3, d4, d5, dz⟩ := hg.cells
    obtain ⟨f0, f1, f2, f3, f4, f5⟩ := hg.frozen
    have HG := hide hg
    clear hg
    go_wp2_with fail
    exact bodyPost_ret (v := .tuple #[gz0.v, .int .i64 e]) (results_gr2 rfl _ rfl rfl (HG.out.store gz0)) rfl ⟨by rw [HR.out], HT.out.ext.gstore (by omega) gz0⟩
  case pos =>
  subst he
  obtain ⟨n, hwa, hwb⟩ := HW.out (by trivial)
  have HR := hide (HO.out (by trivial))
  obtain ⟨a0, a1, a2, a3, a4, a5, az⟩ := HT.out.a.cells
  obtain ⟨b0, b1, b2, b3, b4, b5, bz⟩ := HT.out.b.cells
  have HP2 := hide (HP.out n w1 HT.out.ext hwa hwb)
  clear hwa hwb
  go_wp2_with fail
  refine HP2.out.mono ?_
  rintro r w2 ⟨rfl, hE⟩
  have HT := hide (HT.out.ext_ hE)
  clear hE a0 a1 a2 a3 a4 a5 az b0 b1 b2 b3 b4 b5 bz
  obtain ⟨g, hg⟩ := HT.out.c
  obtain ⟨d0, d1, d2, d3, d4, d5, dz⟩ := hg.cells
  obtain ⟨f0, f1, f2, f3, f4, f5⟩ := hg.frozen
  have HG := hide hg
  clear hg
  generalize compG a b = r at *
  go_wp2_with fail
  exact bodyPost_ret (v := .tuple #[r.v, .int .i64 0]) (results_gr2 rfl _ rfl rfl (HG.out.store r)) rfl ⟨by rw [HR.out], HT.out.ext.gstore (by omega) r⟩
end Go.Proofs.YtfnhjalnbmnlaaaDoor
