/-
  Arguments of the top laws, opened: bytes, tasks, pairs of expressions.
  Conditions: none.
-/
import Derived.Test.YthkididgbaamcaaGreatDoorOpenD
import Derived.Test.YthkididgbaamcaaGreatDoorTkRep
namespace Go.Proofs.YthkididgbaamcaaGreatDoor
open Go.ChangeShapes Go.WideShapes Go.ChangeAt Go.RowKit Go.Deep
set_option maxRecDepth 100000
section
variable {H : Type} {enc : TypeId × Value → H} {w : World} {base : Nat} {spare : Nat → Bool} {held : Bool}
theorem open_byte {v : Value} {d : DataW H} {p : List MemPlace} {r : Reach} {b0 : Nat} (hv : Value.okWide Tryz.prog w r b0 5 v) (h : DataW.Trod enc Tryz.prog w base spare held 5 v d p) : ∃ a : Nat, v = .int .u8 a ∧ a < 256 := by
  obtain ⟨n, rfl, -, -, hw⟩ := open_int Tryz.underlying5 hv h
  simp [Lit.wf, IntKind.min, IntKind.max, IntKind.signed, IntKind.bits] at hw
  exact ⟨n.toNat, by rw [Int.toNat_of_nonneg (by omega)], by omega⟩
theorem cells_case : Tryz.prog.cellsOf 60 = 3 := by kernel_rfl
theorem bytes_case : 8 ≤ Tryz.prog.bytesOf 60 := of_decide_eq_true (by kernel_rfl)
theorem cells_ints : Tryz.prog.cellsOf 45 = 1 := by kernel_rfl
theorem bytes_ints : 8 ≤ Tryz.prog.bytesOf 45 := of_decide_eq_true (by kernel_rfl)
theorem cells_task : Tryz.prog.cellsOf 33 = 4 := by kernel_rfl
instance : Inhabited (Value × Value × Value) := ⟨(undef, undef, undef)⟩
/-- A case's cells are three slices. -/
theorem open_case {n : Nat} {cs : List Value} {x : DataW H × List MemPlace} (h : DataW.trod enc Tryz.prog w base spare held n 60 cs = some x) : ∃ t, cs = tenc t := by
  obtain ⟨xs, m, _, hx, hlen, hxl, hf⟩ := DataW.trod_struct Tryz.underlying60 h
  have hl3 : cs.length = 3 := hlen.trans cells_case
  match cs, hl3 with
  | [c0, c1, c2], _ => exact ⟨(c0, c1, c2), rfl⟩
theorem open_case2 {n : Nat} {t : Value × Value × Value} {x : DataW H × List MemPlace} (h : DataW.trod enc Tryz.prog w base spare held n 60 (tenc t) = some x) (hl : Light 60 x.1) : ∃ c, CaseR w t c := by
  obtain ⟨xs, m, _, hx, hlen, hxl, hf⟩ := DataW.trod_struct Tryz.underlying60 h
  have h0 := hf 0 _ rfl
  have h1 := hf 1 _ rfl
  have h2 := hf 2 _ rfl
  have hx0 : xs[0]? = some (xs[0]'(by rw [hxl]; decide)) := List.getElem?_eq_getElem _
  have hx1 : xs[1]? = some (xs[1]'(by rw [hxl]; decide)) := List.getElem?_eq_getElem _
  have hx2 : xs[2]? = some (xs[2]'(by rw [hxl]; decide)) := List.getElem?_eq_getElem _
  rw [hx0] at h0
  rw [hx1] at h1
  rw [hx2] at h2
  have hd : x.1 = .agg (xs.map (·.1)) := by rw [hx]
  rw [hd] at hl
  have hl0 := hl.field Tryz.underlying60 (j := 0) rfl (d := (xs[0]'(by rw [hxl]; decide)).1) (by rw [List.getElem?_map, hx0]; rfl)
  have hl1 := hl.field Tryz.underlying60 (j := 1) rfl (d := (xs[1]'(by rw [hxl]; decide)).1) (by rw [List.getElem?_map, hx1]; rfl)
  have hl2 := hl.field Tryz.underlying60 (j := 2) rfl (d := (xs[2]'(by rw [hxl]; decide)).1) (by rw [List.getElem?_map, hx2]; rfl)
  obtain ⟨v0, l0, e0, r0, _⟩ := open_row (en := icells) (size := 1) Tryz.underlying45 cells_int (by decide) bytes_int (fun _ => rfl) (fun _ _ _ h => open_i h) h0 hl0
  obtain ⟨v1, l1, e1, r1⟩ := open_rows2 (en := icells) (size := 1) Tryz.underlying56 Tryz.underlying45 cells_ints bytes_ints cells_int (by decide) bytes_int (fun _ => rfl) (fun _ _ _ h => open_i h) h1 hl1
  obtain ⟨v2, l2, e2, r2⟩ := open_rows2 (en := icells) (size := 1) Tryz.underlying56 Tryz.underlying45 cells_ints bytes_ints cells_int (by decide) bytes_int (fun _ => rfl) (fun _ _ _ h => open_i h) h2 hl2
  have e0 : [t.1] = [v0] := e0
  have e1 : [t.2.1] = [v1] := e1
  have e2 : [t.2.2] = [v2] := e2
  injection e0 with e0
  injection e1 with e1
  injection e2 with e2
  exact ⟨⟨l0, l1, l2⟩, by rw [e0]; exact r0, by rw [e1]; exact r1, by rw [e2]; exact r2⟩
theorem open_task {v : Value} {d : DataW H} {p : List MemPlace} {r : Reach} {b0 : Nat} (hv : Value.okWide Tryz.prog w r b0 33 v) (h : DataW.Trod enc Tryz.prog w base spare held 33 v d p) (hl : Light 33 d) : ∃ T, TkRep w v T := by
  obtain ⟨cs, rfl, hsz⟩ := okWide_struct Tryz.underlying33 hv
  obtain ⟨n, h⟩ := h
  obtain ⟨xs, m, _, hx, hlen, hxl, hf⟩ := DataW.trod_struct Tryz.underlying33 h
  have hc4 : cs.size = 4 := hsz.trans cells_task
  have hd : d = .agg (xs.map (·.1)) := (Prod.mk.inj hx).1
  subst hd
  obtain ⟨l⟩ := cs
  match l, hc4 with
  | [c0, c1, c2, c3], _ =>
    have h0 := hf 0 _ rfl
    have h1 := hf 1 _ rfl
    have h2 := hf 2 _ rfl
    have h3 := hf 3 _ rfl
    have hx3 : xs[3]? = some (xs[3]'(by rw [hxl]; decide)) := List.getElem?_eq_getElem _
    rw [List.getElem?_eq_getElem (by rw [hxl]; decide)] at h0 h1 h2
    rw [hx3] at h3
    obtain ⟨k0, hk0⟩ := open_i h0
    obtain ⟨k1, hk1⟩ := open_i h1
    obtain ⟨k2, hk2⟩ := open_i h2
    have hl3 := hl.field Tryz.underlying33 (j := 3) rfl (d := (xs[3]'(by rw [hxl]; decide)).1) (by rw [List.getElem?_map, hx3]; rfl)
    obtain ⟨u, vs, hu, hr, hall⟩ := open_row (en := tenc) (size := 3) Tryz.underlying31 cells_case (by decide) bytes_case (fun _ => rfl) (fun _ _ _ h => open_case h) h3 hl3
    have e0 : [c0] = [Value.int .i64 k0] := hk0
    have e1 : [c1] = [Value.int .i64 k1] := hk1
    have e2 : [c2] = [Value.int .i64 k2] := hk2
    have e3 : [c3] = [u] := hu
    injection e0 with e0
    injection e1 with e1
    injection e2 with e2
    injection e3 with e3
    subst e0 e1 e2 e3
    have hin : ∀ t ∈ vs, ∃ c, CaseR w t c := fun t ht => by
      obtain ⟨i, hi⟩ := List.mem_iff_getElem?.1 ht
      obtain ⟨m, y, h1, h2⟩ := hall i t hi
      exact open_case2 h1 h2
    have hch : ∀ vs : List (Value × Value × Value), (∀ t ∈ vs, ∃ c, CaseR w t c) → ∃ cs : List Cs, vs.length = cs.length ∧ ∀ (i : Nat) t c, vs[i]? = some t → cs[i]? = some c → CaseR w t c := by
      intro vs
      induction vs with
      | nil => exact fun _ => ⟨[], rfl, fun i t c h => by simp at h⟩
      | cons v0 vs ih =>
        intro hin
        obtain ⟨xss, h1, h2⟩ := ih (fun u hu => hin u (List.mem_cons_of_mem _ hu))
        obtain ⟨xs0, h0⟩ := hin v0 (List.mem_cons_self ..)
        refine ⟨xs0 :: xss, by simp [h1], fun i u xs hu hx => ?_⟩
        cases i with
        | zero =>
          simp only [List.getElem?_cons_zero, Option.some.injEq] at hu hx
          subst hu hx
          exact h0
        | succ i =>
          simp only [List.getElem?_cons_succ] at hu hx
          exact h2 i u xs hu hx
    obtain ⟨css, h1, h2⟩ := hch vs hin
    exact ⟨⟨k0, k1, k2, css⟩, _, vs, rfl, h1, hr, h2⟩
end
end Go.Proofs.YthkididgbaamcaaGreatDoor

namespace Go.Proofs.YthkididgbaamcaaGreatDoor
open Go.ChangeShapes Go.WideShapes Go.ChangeAt Go.RowKit Go.Deep
set_option maxRecDepth 100000
section
variable {H : Type} {enc : TypeId × Value → H} {w : World} {base : Nat} {spare : Nat → Bool} {held : Bool}
theorem Light.array {t e : TypeId} {k : Nat} {ds : List (DataW H)} (hu : Tryz.prog.underlying t = some (.array k e)) (h : Light t (.agg ds)) : ∀ d ∈ ds, Light e d := by
  unfold Light at h
  simp only [DataW.weights, hu] at h
  exact Light.all h
theorem okWide_exprs {r : Reach} {b0 : Nat} {v : Value} (hv : Value.okWide Tryz.prog w r b0 26 v) : ∃ cs, v = .agg cs ∧ cs.size = 6 := by
  simp only [Value.okWide, Tryz.underlying26] at hv
  obtain ⟨cs, h1, h2, _⟩ := hv
  exact ⟨cs, h1, h2.trans (by kernel_rfl)⟩
theorem open_exprs {v : Value} {d : DataW H} {p : List MemPlace} {r : Reach} {b0 : Nat} (hv : Value.okWide Tryz.prog w r b0 26 v) (h : DataW.Trod enc Tryz.prog w base spare held 26 v d p) (hl : Light 26 d) :
    ∃ (e0 e1 : Ex) (p0 : Option Addr) (c0 : Nat) (p1 : Option Addr) (c1 : Nat), v = .agg #[.int .i64 e0.op, .int .i64 e0.num, .slice p0 e0.args.length c0, .int .i64 e1.op, .int .i64 e1.num, .slice p1 e1.args.length c1] ∧
      ExAt w (.agg #[.int .i64 e0.op, .int .i64 e0.num, .slice p0 e0.args.length c0]) e0 ∧ ExAt w (.agg #[.int .i64 e1.op, .int .i64 e1.num, .slice p1 e1.args.length c1]) e1 := by
  obtain ⟨cs, rfl, hsz⟩ := okWide_exprs hv
  obtain ⟨n, h⟩ := h
  obtain ⟨xs, m, _, hx, hlen, hxl, hf⟩ := DataW.trod_array Tryz.underlying26 h
  have hd : d = .agg (xs.map (·.1)) := (Prod.mk.inj hx).1
  subst hd
  have hla := hl.array Tryz.underlying26
  have key : ∀ i, i < 2 → ∃ (e : Ex) (q : Option Addr) (c : Nat), (cs.toList.drop (i * 3)).take 3 = [.int .i64 e.op, .int .i64 e.num, .slice q e.args.length c] ∧ ExAt w (.agg #[.int .i64 e.op, .int .i64 e.num, .slice q e.args.length c]) e := fun i hi => by
    have h2 := hf i hi
    have hxi : xs[i]? = some (xs[i]'(by rw [hxl]; exact hi)) := List.getElem?_eq_getElem _
    rw [hxi, cells_ex] at h2
    exact open_ex m _ _ h2 (hla _ (List.mem_map_of_mem (List.getElem_mem _)))
  obtain ⟨e0, p0, c0, h0, x0⟩ := key 0 (by omega)
  obtain ⟨e1, p1, c1, h1, x1⟩ := key 1 (by omega)
  refine ⟨e0, e1, p0, c0, p1, c1, ?_, x0, x1⟩
  obtain ⟨l⟩ := cs
  match l, hsz with
  | [y0, y1, y2, y3, y4, y5], _ =>
    have g0 : [y0, y1, y2] = [.int .i64 e0.op, .int .i64 e0.num, .slice p0 e0.args.length c0] := h0
    have g1 : [y3, y4, y5] = [.int .i64 e1.op, .int .i64 e1.num, .slice p1 e1.args.length c1] := h1
    simp only [List.cons.injEq, and_true] at g0 g1
    obtain ⟨rfl, rfl, rfl⟩ := g0
    obtain ⟨rfl, rfl, rfl⟩ := g1
    rfl
end
end Go.Proofs.YthkididgbaamcaaGreatDoor
