/-
  Further arguments of layer 13's laws, opened: declarations of tasks, pairs of bytes.
  Conditions: none.
-/
import Derived.Test.YthkididgbaamcaaGreatDoorOpen13
namespace Go.Proofs.YthkididgbaamcaaGreatDoor
open Go.ChangeShapes Go.WideShapes Go.ChangeAt Go.RowKit Go.Deep
set_option maxRecDepth 100000
section
variable {H : Type} {enc : TypeId × Value → H} {w : World} {base : Nat} {spare : Nat → Bool} {held : Bool}

theorem okWide_pair {r : Reach} {b0 : Nat} {v : Value} (hv : Value.okWide Tryz.prog w r b0 22 v) : ∃ cs, v = .agg cs ∧ cs.size = 2 := by
  simp only [Value.okWide, Tryz.underlying22] at hv
  obtain ⟨cs, h1, h2, _⟩ := hv
  exact ⟨cs, h1, h2.trans (by kernel_rfl)⟩
theorem byte_bd {n : Int} (h : (Lit.int .u8 n).wf = true) : 0 ≤ n ∧ n ≤ 255 := by
  simp [Lit.wf, IntKind.min, IntKind.max, IntKind.signed, IntKind.bits] at h
  omega

theorem open_pair {v : Value} {d : DataW H} {p : List MemPlace} {r : Reach} {b0 : Nat} (hv : Value.okWide Tryz.prog w r b0 22 v) (h : DataW.Trod enc Tryz.prog w base spare held 22 v d p) :
    ∃ a b : Nat, v = .agg #[.int .u8 a, .int .u8 b] ∧ a < 256 ∧ b < 256 := by
  obtain ⟨cs, rfl, hsz⟩ := okWide_pair hv
  obtain ⟨n, h⟩ := h
  obtain ⟨xs, m, _, _, hlen, hxl, hf⟩ := DataW.trod_array Tryz.underlying22 h
  have c1 : Tryz.prog.cellsOf 5 = 1 := by kernel_rfl
  have key : ∀ i, i < 2 → ∃ k : Nat, k < 256 ∧ ((cs.toList.drop i).take 1) = [.int .u8 k] := fun i hi => by
    have h2 := hf i hi
    rw [List.getElem?_eq_getElem (by rw [hxl]; exact hi), c1, Nat.mul_one] at h2
    obtain ⟨k, h1, _, hw⟩ := DataW.trod_int Tryz.underlying5 h2
    obtain ⟨hb0, hb1⟩ := byte_bd hw
    have h3 : (cs.toList.drop i).take 1 = [.int .u8 k] := h1
    exact ⟨k.toNat, by omega, by rw [h3, Int.toNat_of_nonneg hb0]⟩
  obtain ⟨a, ha, ha'⟩ := key 0 (by omega)
  obtain ⟨b, hb, hb'⟩ := key 1 (by omega)
  refine ⟨a, b, ?_, ha, hb⟩
  have e0 := take_one ha'
  have e1 := take_one hb'
  obtain ⟨l⟩ := cs
  match l, hsz with
  | [y0, y1], _ =>
    simp only [List.getElem?_cons_zero, List.getElem?_cons_succ, Option.some.injEq] at e0 e1
    subst e0 e1
    rfl

theorem cells_dc : Tryz.prog.cellsOf 38 = 12 := by kernel_rfl
theorem open_decl {v : Value} {d : DataW H} {p : List MemPlace} {r : Reach} {b0 : Nat} (hv : Value.okWide Tryz.prog w r b0 38 v) (h : DataW.Trod enc Tryz.prog w base spare held 38 v d p) (hl : Light 38 d) : ∃ e, DcAt w v e := by
  obtain ⟨cs, rfl, hsz⟩ := okWide_struct Tryz.underlying38 hv
  obtain ⟨n, h⟩ := h
  obtain ⟨xs, m, _, hx, hlen, hxl, hf⟩ := DataW.trod_struct Tryz.underlying38 h
  have hc12 : cs.size = 12 := hsz.trans cells_dc
  have hd : d = .agg (xs.map (·.1)) := (Prod.mk.inj hx).1
  subst hd
  obtain ⟨l⟩ := cs
  match l, hc12 with
  | [c0, c1, c2, c3, c4, c5, c6, c7, c8, c9, c10, c11], _ =>
    have h0 := hf 0 _ rfl
    have h1 := hf 1 _ rfl
    have h2 := hf 2 _ rfl
    have h3 := hf 3 _ rfl
    have h4 := hf 4 _ rfl
    have h5 := hf 5 _ rfl
    have hx3 : xs[3]? = some (xs[3]'(by rw [hxl]; decide)) := List.getElem?_eq_getElem _
    have hx4 : xs[4]? = some (xs[4]'(by rw [hxl]; decide)) := List.getElem?_eq_getElem _
    have hx5 : xs[5]? = some (xs[5]'(by rw [hxl]; decide)) := List.getElem?_eq_getElem _
    rw [List.getElem?_eq_getElem (by rw [hxl]; decide)] at h0 h1 h2
    rw [hx3] at h3
    rw [hx4] at h4
    rw [hx5] at h5
    obtain ⟨s, hs, _⟩ := DataW.trod_string Tryz.underlying9 h0
    obtain ⟨k1, hk1⟩ := open_i h1
    obtain ⟨k2, hk2⟩ := open_i h2
    have hl3 := hl.field Tryz.underlying38 (j := 3) rfl (d := (xs[3]'(by rw [hxl]; decide)).1) (by rw [List.getElem?_map, hx3]; rfl)
    have hl4 := hl.field Tryz.underlying38 (j := 4) rfl (d := (xs[4]'(by rw [hxl]; decide)).1) (by rw [List.getElem?_map, hx4]; rfl)
    have hl5 := hl.field Tryz.underlying38 (j := 5) rfl (d := (xs[5]'(by rw [hxl]; decide)).1) (by rw [List.getElem?_map, hx5]; rfl)
    obtain ⟨e3, p3, g3, he3, hE3⟩ := open_ex _ _ _ h3 hl3
    obtain ⟨e4, p4, g4, he4, hE4⟩ := open_ex _ _ _ h4 hl4
    obtain ⟨e5, p5, g5, he5, hE5⟩ := open_ex _ _ _ h5 hl5
    have hs' : [c0] = [Value.string s] := hs
    have hk1' : [c1] = [Value.int .i64 k1] := hk1
    have hk2' : [c2] = [Value.int .i64 k2] := hk2
    have he3' : [c3, c4, c5] = [Value.int .i64 e3.op, .int .i64 e3.num, .slice p3 e3.args.length g3] := he3
    have he4' : [c6, c7, c8] = [Value.int .i64 e4.op, .int .i64 e4.num, .slice p4 e4.args.length g4] := he4
    have he5' : [c9, c10, c11] = [Value.int .i64 e5.op, .int .i64 e5.num, .slice p5 e5.args.length g5] := he5
    simp only [List.cons.injEq, and_true] at hs' hk1' hk2' he3' he4' he5'
    obtain ⟨rfl, rfl, rfl⟩ := he3'
    obtain ⟨rfl, rfl, rfl⟩ := he4'
    obtain ⟨rfl, rfl, rfl⟩ := he5'
    subst hs' hk1' hk2'
    exact ⟨⟨k1, k2, e3, e4, e5⟩, s, p3, g3, p4, g4, p5, g5, rfl, hE3, hE4, hE5⟩
end
end Go.Proofs.YthkididgbaamcaaGreatDoor
