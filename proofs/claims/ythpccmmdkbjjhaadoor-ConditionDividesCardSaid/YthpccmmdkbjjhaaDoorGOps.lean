import Derived.Test.YthpccmmdkbjjhaaDoorTzMem
namespace Go.Proofs.YthpccmmdkbjjhaaDoor
open Go.RowKit
attribute [local go_sem] Oper.semAt_some

/-- A graph and an error are returned. -/
def RetG (x : Gr × Int) (w : World) (e : Ending) (w' : World) : Prop := e = .returned (.tuple #[x.1.v, .int .i64 x.2]) ∧ Ext w w'
/-- A value and an error are returned. -/
def RetV1 (x : Value × Int) (w : World) (e : Ending) (w' : World) : Prop := e = .returned (.tuple #[x.1, .int .i64 x.2]) ∧ Ext w w'
theorem withE_err {e : Int} {g : Gr} (h : e ≠ 0) : withE e g = (gz0, e) := if_pos h
theorem shr1 {x p : Nat} (hx : x < 32) : bits .and .i64 ((x : Int) / 2 ^ p) 1 = ((x >>> p &&& 1 : Nat) : Int) := by
  rw [show ((x : Int) / 2 ^ p) = ((x >>> p : Nat) : Int) by rw [Nat.shiftRight_eq_div_pow]; simp]
  have : x >>> p ≤ x := Nat.shiftRight_le x p
  exact i64_and_nat _ 1 (by omega) (by omega)
theorem shl_bit (c : Bool) (k : Nat) (hk : k ≤ 5) : wrap64 (((if c then 1 else 0 : Nat) : Int) * 2 ^ k) = ((if c then 2 ^ k else 0 : Nat) : Int) := by
  obtain rfl | rfl | rfl | rfl | rfl | rfl : k = 0 ∨ k = 1 ∨ k = 2 ∨ k = 3 ∨ k = 4 ∨ k = 5 := by omega
  all_goals (cases c <;> kernel_rfl)
set_option maxRecDepth 8000 in
set_option maxHeartbeats 1000000 in
theorem reverse1_any (g : Gr) {n : Nat} (hg : Wf g n) (p : Nat) (hp : p < n) (bg : Nat) (w : World) (hb : GrBox w bg g) :
    Calls Tryd.prog 73 #[.int .i64 p, .pointer (some ⟨bg, 0, none⟩)] w fun e w' => e = .returned (.int .i64 (setOf (fun q => (g.r q).testBit p) n : Nat)) ∧ Ext w w' := by
  have hn5 := hg.n5
  have hp5 : (p : Int) < 5 := by omega
  obtain ⟨c0, -, -, -, -, -, z1⟩ := hb.cells
  rw [hg.n_eq] at c0
  have HB := hide hb
  have HG := hide hg
  have HL := hide (fun k (hk : k ≤ 5) => setOf_lt (fun q => (g.r q).testBit p) k 5 hk)
  clear hb hg
  go_enter Tryd.func73, Tryd.ntmps73
  go_wp2_with fail
  go_loop [4, 8] (fun o x => ∃ k : Nat, k ≤ n ∧ x = .int .i64 k ∧ o = .int .i64 (setOf (fun q => (g.r q).testBit p) k : Nat)) (fun _ x => n - (intOf x).toNat)
  case atStart => exact ⟨0, by omega, rfl, rfl⟩
  case round =>
    obtain ⟨k, hk, rfl, rfl⟩ := hrel
    by_cases hlt : k < n
    · have hk5 : (k : Int) < 5 := by omega
      obtain ⟨hr1, -⟩ := HB.out.row (p := k) (by omega)
      rw [HG.out.row] at hr1
      have hx := HG.out.lt32 k
      have h1 := shr1 (p := p) hx
      have hso := HL.out k (by omega)
      have hsn : setOf (fun q => (g.r q).testBit p) (k + 1) = setOf (fun q => (g.r q).testBit p) k ||| (if (g.r k).testBit p then 2 ^ k else 0) := rfl
      have hb1 : (g.r k >>> p &&& 1) = if (g.r k).testBit p then 1 else 0 := by
        rw [Nat.and_one_is_mod, Nat.testBit_eq_decide_div_mod_eq, Nat.shiftRight_eq_div_pow]
        by_cases h : g.r k / 2 ^ p % 2 = 1
        · simp [h]
        · simp [h]; omega
      have hsh : wrap64 (((g.r k >>> p &&& 1 : Nat) : Int) * 2 ^ k) = ((if (g.r k).testBit p then 2 ^ k else 0 : Nat) : Int) := by
        rw [hb1]
        exact shl_bit _ k (by omega)
      have hor := i64_or_nat (setOf (fun q => (g.r q).testBit p) k) (if (g.r k).testBit p then 2 ^ k else 0) (by omega) (by split; exact Nat.lt_of_le_of_lt (pow2_32 (show k ≤ 5 by omega)) (by omega); omega)
      rw [← hsn] at hor
      have hsm : (if (g.r k).testBit p then 2 ^ k else 0) ≤ 32 := by split; exact pow2_32 (by omega); omega
      generalize (if (g.r k).testBit p then 2 ^ k else 0) = y at hsh hor hsm
      have HSN := hide hsn
      clear hsn hb1
      generalize g.r k = r0 at *
      generalize (r0 >>> p &&& 1) = bit at *
      generalize setOf (fun q => (g.r q).testBit p) k = x0 at *
      go_wp2_with fail
      go_round
      case rel => exact ⟨k + 1, by omega, by go_num, rfl⟩
      case measure => simp [intOf]; omega
    · obtain rfl : k = n := by omega
      go_wp2_with fail
      go_ret
      exact ⟨rfl, Ext.refl _⟩
theorem enters_r1 : ∀ args w, (callFunc 73 args).run Tryd.prog w = .ok (.enter 73 args) w := fun _ _ => by kernel_rfl
set_option maxHeartbeats 1000000 in
theorem reverse_any (a : Gr) (w : World) : Calls Tryd.prog 34 #[a.v] w (RetG (reverseS a) w) := by
  have HB := hide (fun W => gcheck_any a W)
  have HZ := hide (fun h : gchk a ≠ 0 => show reverseS a = (gz0, gchk a) from withE_err h)
  have HO := hide (fun h : gchk a = 0 => show reverseS a = (revG a, 0) from by unfold reverseS; rw [h]; rfl)
  have HW := hide (fun h : gchk a = 0 => wf_of h)
  generalize reverseS a = res at HZ HO ⊢
  generalize gchk a = e at HB HZ HO HW
  go_enter Tryd.func34, Tryd.ntmps34
  go_wp2_with fail
  have HT := hide (One1.mk_ w a)
  refine (HB.out _).mono ?_
  rintro r w1 ⟨rfl, hE⟩
  have HT := hide (HT.out.ext_ hE)
  clear hE
  by_cases he : e = 0
  case neg =>
    have hd : (e != 0) = true := by simp [he]
    have HR := hide (HZ.out he)
    clear he
    obtain ⟨g, hg⟩ := HT.out.c
    obtain ⟨d0, d1, d2, d3, d4, d5, dz⟩ := hg.cells
    obtain ⟨f0, f1, f2, f3, f4, f5⟩ := hg.frozen
    have HG := hide hg
    clear hg
    go_wp2_with fail
    exact bodyPost_ret (v := .tuple #[gz0.v, .int .i64 e]) (results_gr2 rfl _ rfl rfl (HG.out.store gz0)) rfl ⟨by rw [HR.out], HT.out.ext.gstore (by omega) gz0⟩
  case pos =>
  subst he
  obtain ⟨n, hwa⟩ := HW.out (by trivial)
  have HR := hide (HO.out (by trivial))
  obtain ⟨a0, a1, a2, a3, a4, a5, az⟩ := HT.out.a.cells
  have HK := hide (made_any n hwa.n5 73 #[.pointer (some ⟨w.heap.size, 0, none⟩)] (fun p => ((setOf (fun q => (a.r q).testBit p) n : Nat) : Int)) w1 enters_r1 (fun p W hp hE => by exact reverse1_any a hwa p hp _ W (HT.out.a.ext hE)))
  have HQ : Hid (revG a = mkG n (fun p => ((setOf (fun q => (a.r q).testBit p) n : Nat) : Int)) n) := by show _ = _; unfold revG natG; rw [hwa.toNat]
  have HN := hide hwa.n_eq
  clear hwa
  go_wp2_with fail
  rw [HN.out]
  refine HK.out.mono ?_
  rintro r w2 ⟨rfl, hE⟩
  rw [← HQ.out]
  have HT := hide (HT.out.ext_ hE)
  clear hE a0 a1 a2 a3 a4 a5 az
  obtain ⟨g, hg⟩ := HT.out.c
  obtain ⟨d0, d1, d2, d3, d4, d5, dz⟩ := hg.cells
  obtain ⟨f0, f1, f2, f3, f4, f5⟩ := hg.frozen
  have HG := hide hg
  clear hg
  generalize revG a = r at *
  go_wp2_with fail
  exact bodyPost_ret (v := .tuple #[r.v, .int .i64 0]) (results_gr2 rfl _ rfl rfl (HG.out.store r)) rfl ⟨by rw [HR.out], HT.out.ext.gstore (by omega) r⟩
end Go.Proofs.YthpccmmdkbjjhaaDoor
