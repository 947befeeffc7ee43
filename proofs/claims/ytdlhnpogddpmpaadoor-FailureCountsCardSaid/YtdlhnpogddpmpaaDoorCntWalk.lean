/-
  The law FailureCounts: the walk.
  Conditions: the table of math/bits lies in the heap (Tz).
-/
import Derived.Test.YtdlhnpogddpmpaaDoorCntLaw
import Derived.Deep.CutRange
namespace Go.Proofs.YtdlhnpogddpmpaaDoor
open Go.RowKit
attribute [local go_sem] Oper.semAt_some

/-- An adversary's box. -/
def BXc (W : World) (b : Nat) (n : Int) (s : Value) : Prop := W.heap[b]? = some (.cells #[.int .i64 n, s] 24 (0, 0))
theorem BXc.ext {W W' : World} {b : Nat} {n : Int} {s : Value} (h : BXc W b n s) (hE : Ext W W') : BXc W' b n s := (hE.b.block _ (lt_of_heap h)).trans h
theorem BXc.facts {W : World} {b : Nat} {n : Int} {s : Value} (h : BXc W b n s) : W.cell? ⟨b, 0, none⟩ = some (.int .i64 n) ∧ W.cell? ⟨b, 1, none⟩ = some s ∧ b < W.heap.size := ⟨cells_at h 0, cells_at h 1, lt_of_heap h⟩

set_option maxRecDepth 16000 in
set_option maxHeartbeats 4000000 in
theorem counts_law1 (n : Int) (h0 : 0 ≤ n) (h1 : n < 256) (hN : 1 + n % 4 = 1) (w : World) (hT : Tz w) : Calls Tryd.prog 3 #[.int .u8 n] w fun e w' => e = .returned (.bool true) ∧ Ext w w' := by
  obtain ⟨⟨A1, e1, l1, m1⟩, ⟨A2, e2, l2, m2⟩, ⟨A3, e3, l3, m3, k3⟩, g, e4, e5⟩ := cnt_ok (N := 1) (by decide) (by decide)
  have e1 : mdlA 1 1 1 = (A1, 0) := e1
  have e2 : partA 1 1 = (A2, 0) := e2
  have e3 : snapA 1 = (A3, 0) := e3
  have e4 : mdlA 4 1 0 = (⟨1, [[⟨⟨g, 0⟩, 0⟩]]⟩, 0) := e4
  have e5 : compC 1 = (g, 0) := e5
  have m1 : A1.len 0 = 2 := m1
  have m2 : A2.len 0 = 1 := m2
  have m3 : A3.len 0 = 1 := m3
  obtain ⟨A4, e4, l4, m4, v4⟩ : ∃ A4, mdlA 4 1 0 = (A4, 0) ∧ A4.L = 1 ∧ A4.len 0 = 1 ∧ A4.mv 0 0 = ⟨⟨g, 0⟩, 0⟩ := ⟨_, e4, rfl, rfl, rfl⟩
  have L4 : 0 < A4.L := by rw [l4]; decide
  have C1 := hide (fun W => (pcrash_any 1 1 W))
  have C2 := hide (fun W => (ppartition_any 1 1 W))
  have C3 := hide (fun W => (psnapshot_any 1 W))
  have C4 := hide (fun W => (pomit_any 1 0 W))
  have C5 := hide (fun W => (pcomp_any 1 W))
  rw [e1] at C1
  rw [e2] at C2
  rw [e3] at C3
  rw [e4] at C4
  rw [e5] at C5
  have HA := hide (fun W => awake17_any W)
  have HN := hide hN
  rw [m3] at k3
  have K3 := hide k3
  have HT := hide hT
  have L3 : 0 < A3.L := by rw [l3]; decide
  clear hN hT k3 e1 e2 e3 e4 e5
  go_enter Tryd.func3, Tryd.ntmps3
  go_wp2_with fail
  rw [HN.out]
  refine (C1.out _).mono ?_
  rintro e w1 ⟨v, rfl, hv, hE⟩
  have hr := hv.rep
  obtain ⟨p1, c1, rfl, q1, -, hat⟩ := hr.all_
  obtain ⟨b1, o1, rfl, z1, hat⟩ := hat l1
  have HA1 := hide (hat 0 l1)
  have X1 : Hid (Ext w w1) := by first | exact hE | exact ((Ext.refl w).alloc _).trans hE
  clear hat hr hv q1 hE
  go_wp2_with fail
  refine (C2.out _).mono ?_
  rintro e w2 ⟨v, rfl, hv, hE⟩
  have hr := hv.rep
  obtain ⟨p2, c2, rfl, q2, -, hat⟩ := hr.all_
  obtain ⟨b2, o2, rfl, z2, hat⟩ := hat l2
  have HA2 := hide (hat 0 l2)
  have B1 : Hid (BXc w2 w1.heap.size A1.n (.slice (some ⟨b1, o1, none⟩) A1.L c1)) := (hE.b.block _ (by simp)).trans (heap_alloc_new w1 _)
  have Y2 := hide (((Ext.refl w1).alloc (.cells #[.int .i64 A1.n, .slice (some ⟨b1, o1, none⟩) A1.L c1] 24)).trans hE)
  have X2 := hide (X1.out.trans Y2.out)
  clear hat hr hv q2 hE
  go_wp2_with fail
  refine (C3.out _).mono ?_
  rintro e w3 ⟨v, rfl, hv, hE⟩
  have hr := hv.rep
  obtain ⟨p3, c3, rfl, q3, -, hat⟩ := hr.all_
  obtain ⟨b3, o3, rfl, z3, hat⟩ := hat L3
  have HA3 := hide (hat 0 L3)
  have B2 : Hid (BXc w3 w2.heap.size A2.n (.slice (some ⟨b2, o2, none⟩) A2.L c2)) := (hE.b.block _ (by simp)).trans (heap_alloc_new w2 _)
  have Y3 := hide (((Ext.refl w2).alloc (.cells #[.int .i64 A2.n, .slice (some ⟨b2, o2, none⟩) A2.L c2] 24)).trans hE)
  have X3 := hide (X2.out.trans Y3.out)
  have B1 := hide (B1.out.ext Y3.out)
  clear hat hr hv q3 hE
  obtain ⟨d0, d1, dz⟩ := B1.out.facts
  obtain ⟨f0, f1, fz⟩ := B2.out.facts
  obtain ⟨s1, u1, r1, -, -, -⟩ := HA1.out
  obtain ⟨s2, u2, r2, -, -, -⟩ := HA2.out
  obtain ⟨s3, u3, r3, -, -, R3, at3⟩ := HA3.out
  replace r1 := r1 w3 (Y2.out.trans Y3.out)
  replace r2 := r2 w3 Y3.out
  rw [m3, Nat.add_zero] at r3
  have HR3 := hide r3
  have HZ3 := hide z3
  replace r3 := r3 w3 (Ext.refl w3)
  rw [m1, Nat.add_zero] at r1
  rw [m2, Nat.add_zero] at r2
  have z1 := Nat.lt_of_lt_of_le z1 (Y2.out.trans Y3.out).size
  have z2 := Nat.lt_of_lt_of_le z2 Y3.out.size
  have AT3 := hide at3
  clear at3 R3 HA1 HA2 HA3
  have hb1 : ((A1.L : Int) == 0) = false := beq_eq_false_iff_ne.2 (by omega)
  have hb2 : ((A2.L : Int) == 0) = false := beq_eq_false_iff_ne.2 (by omega)
  go_wp2_with fail
  obtain ⟨w4, hw4⟩ : ∃ w4, w3.alloc (.cells #[.int .i64 A3.n, .slice (some ⟨b3, o3, none⟩) 1 c3] 24) = w4 := ⟨_, rfl⟩
  have E34 : Ext w3 w4 := by rw [← hw4]; exact (Ext.refl w3).alloc _
  have X4 := hide (X3.out.trans E34)
  have g3 : BXc w4 w3.heap.size A3.n (.slice (some ⟨b3, o3, none⟩) 1 c3) := by rw [← hw4]; exact heap_alloc_new w3 _
  have B3 := hide g3
  have B1 := hide (B1.out.ext E34)
  have B2 := hide (B2.out.ext E34)
  replace r1 := (E34.cell (p := ⟨b1, o1, none⟩) z1).trans r1
  replace r2 := (E34.cell (p := ⟨b2, o2, none⟩) z2).trans r2
  replace r3 := (E34.cell (p := ⟨b3, o3, none⟩) z3).trans r3
  replace z1 := Nat.lt_of_lt_of_le z1 E34.size
  replace z2 := Nat.lt_of_lt_of_le z2 E34.size
  replace z3 := Nat.lt_of_lt_of_le z3 E34.size
  have Y4 := hide E34
  rw [hw4]
  clear hw4 d0 d1 dz f0 f1 fz E34 g3
  obtain ⟨d0, d1, dz⟩ := B1.out.facts
  obtain ⟨f0, f1, fz⟩ := B2.out.facts
  obtain ⟨g0, g1, gz⟩ := B3.out.facts
  have i1 : ∀ w : World, (Instr.index 30 (.agg #[.int .i64 0, .int .i64 1, .int .i64 2, .int .i64 5, .int .i64 15]) (.int .i64 1)).run Tryd.prog w = .ok (.int .i64 1) w := fun _ => by kernel_rfl
  have i2 : ∀ w : World, (Instr.index 30 (.agg #[.int .i64 0, .int .i64 1, .int .i64 3, .int .i64 13, .int .i64 75]) (.int .i64 1)).run Tryd.prog w = .ok (.int .i64 1) w := fun _ => by kernel_rfl
  refine wp_region_ext (by kernel_rfl) (by kernel_rfl) ?_
  repeat (go_big_quiet_step (fail))
  refine wpQuiet_nil ?_
  rintro w5 ⟨⟨_, E5⟩, rfl⟩
  have X5 := hide (X4.out.trans E5)
  have Y5 := hide (Y4.out.trans E5)
  have B3 := hide (B3.out.ext E5)
  clear E5 d0 d1 dz f0 f1 fz g0 g1 gz r1 r2 r3 z1 z2 i1 i2 B1 B2 X1 X2 X3 X4 Y2 Y3 Y4
  go_wp2_with fail
  refine (C5.out _).mono ?_
  rintro e w6 ⟨rfl, E6⟩
  have Y6 := hide (Y5.out.trans E6)
  have X6 := hide (X5.out.trans E6)
  have B3 := hide (B3.out.ext E6)
  clear E6
  go_wp2_with fail
  refine (C4.out _).mono ?_
  rintro e w7 ⟨v, rfl, hv, E7⟩
  have hr := hv.rep
  obtain ⟨p4, c4, rfl, q4, -, hat⟩ := hr.all_
  obtain ⟨b4, o4, rfl, z4, hat⟩ := hat L4
  obtain ⟨s4, u4, r4, -, -, -, at4⟩ := hat 0 L4
  replace r4 := r4 w7 (Ext.refl w7)
  obtain ⟨b5, o5, rfl, z5, at4⟩ := at4 (by rw [m4]; decide)
  have hm4 := (at4 0 (by rw [m4]; decide)).now (Ext.refl w7)
  rw [m4, Nat.add_zero] at r4
  rw [v4] at hm4
  have E67 := ((Ext.refl w6).alloc (.cells #[.int .i64 g.n, .int .i64 g.h0, .int .i64 g.h1, .int .i64 g.h2, .int .i64 g.h3, .int .i64 g.h4] 32)).trans E7
  have G6 : Hid (GrBox w7 w6.heap.size g) := (E7.b.block _ (by simp)).trans (heap_alloc_new w6 _)
  have Y7 := hide (Y6.out.trans E67)
  have X7 := hide (X6.out.trans E67)
  have B3 := hide (B3.out.ext E67)
  clear E67 E7 hv hr hat at4 q4
  obtain ⟨g0, g1, g2, g3, g4, g5, gz⟩ := G6.out.cells
  obtain ⟨y0, y1, y2, y3, y4, y5, y6, y7⟩ := hm4
  dsimp only
  dsimp only at y0 y1 y2 y3 y4 y5 y6 y7
  simp only [Nat.zero_mul, Nat.add_zero] at y0 y1 y2 y3 y4 y5 y6 y7
  obtain ⟨w8, hw8⟩ : ∃ w8, w7.alloc (.cells #[.int .i64 A4.n, .slice (some ⟨b4, o4, none⟩) A4.L c4] 24) = w8 := ⟨_, rfl⟩
  have E78 : Ext w7 w8 := by rw [← hw8]; exact (Ext.refl w7).alloc _
  have B4 : BXc w8 w7.heap.size A4.n (.slice (some ⟨b4, o4, none⟩) A4.L c4) := by rw [← hw8]; exact heap_alloc_new w7 _
  rw [l4] at B4
  go_upto_region 11 with fail
  rw [← l4, hw8, l4]
  clear hw8
  have Y8 := hide (Y7.out.trans E78)
  have X8 := hide (X7.out.trans E78)
  have B3 := hide (B3.out.ext E78)
  have G8 := hide (show GrBox w8 w6.heap.size g from (E78.b.block _ (lt_of_heap G6.out)).trans G6.out)
  replace r4 := (E78.cell (p := ⟨b4, o4, none⟩) z4).trans r4
  replace y0 := (E78.cell (p := ⟨b5, o5, none⟩) z5).trans y0
  replace y1 := (E78.cell (p := ⟨b5, o5 + 1, none⟩) z5).trans y1
  replace y2 := (E78.cell (p := ⟨b5, o5 + 2, none⟩) z5).trans y2
  replace y3 := (E78.cell (p := ⟨b5, o5 + 3, none⟩) z5).trans y3
  replace y4 := (E78.cell (p := ⟨b5, o5 + 4, none⟩) z5).trans y4
  replace y5 := (E78.cell (p := ⟨b5, o5 + 5, none⟩) z5).trans y5
  replace y6 := (E78.cell (p := ⟨b5, o5 + 6, none⟩) z5).trans y6
  replace y7 := (E78.cell (p := ⟨b5, o5 + 7, none⟩) z5).trans y7
  replace z4 := Nat.lt_of_lt_of_le z4 E78.size
  replace z5 := Nat.lt_of_lt_of_le z5 E78.size
  clear g0 g1 g2 g3 g4 g5 gz E78
  obtain ⟨g0, g1, g2, g3, g4, g5, gz⟩ := G8.out.cells
  obtain ⟨f0, f1, fz⟩ := BXc.facts B4
  have hq := neq_move g.n g.h0 g.h1 g.h2 g.h3 g.h4 0 0 g.n g.h0 g.h1 g.h2 g.h3 g.h4 0 0
  rw [show meq ⟨⟨⟨g.n, g.h0, g.h1, g.h2, g.h3, g.h4⟩, 0⟩, 0⟩ ⟨⟨⟨g.n, g.h0, g.h1, g.h2, g.h3, g.h4⟩, 0⟩, 0⟩ = true from meq_iff.2 rfl] at hq
  simp only [Bool.not_true] at hq
  refine wp_region_ext (by kernel_rfl) (by kernel_rfl) ?_
  repeat (go_big_quiet_step (fail))
  refine wpQuiet_nil ?_
  rintro w9 ⟨⟨_, E9⟩, rfl⟩
  have X9 := hide (X8.out.trans E9)
  have Y9 := hide (Y8.out.trans E9)
  have B3 := hide (B3.out.ext E9)
  clear E9 g0 g1 g2 g3 g4 g5 gz f0 f1 fz hq y0 y1 y2 y3 y4 y5 y6 y7 r4 z4 z5 G8 G6 X8 X7 X6 X5 Y8 Y7 Y6 Y5
  obtain ⟨b6, o6, rfl, z6, at6⟩ := AT3.out (by rw [m3]; decide)
  have HAT := hide at6
  have HZ6 := hide z6
  have r3 := HR3.out w9 Y9.out
  have z3 := Nat.lt_of_lt_of_le HZ3.out Y9.out.size
  obtain ⟨d0, d1, dz⟩ := B3.out.facts
  clear at6 z6
  go_wp2_with fail
  have HE : Hid (Ext w9 w9) := Ext.refl w9
  clear d0 d1 dz r3 z3
  go_loopw [15, 16, 17, 141] (fun _ _ _ x V => ∃ i : Nat, i ≤ 1 ∧ x = .int .i64 i ∧ Hid (Ext w9 V)) (fun _ _ _ x _ => 1 - (intOf x).toNat)
  case atStart => exact ⟨0, by omega, rfl, HE⟩
  case round =>
    clear HE
    obtain ⟨i, hi, rfl, HE⟩ := hrel
    by_cases hlt : i < 1
    · have hx := (HAT.out i (by rw [m3]; exact hlt)).now (Y9.out.trans HE.out)
      obtain ⟨kf, kt, kc⟩ := K3.out i hlt
      generalize A3.mv 0 i = mm at hx kf kt kc
      obtain ⟨⟨⟨n', a', b', c', d', e'⟩, ff⟩, tt⟩ := mm
      have kf : ff = 0 := kf
      have kt : tt = 0 := kt
      subst kf kt
      have HC := hide (fun W (hT : Tz W) => compose_any ⟨n', a', b', c', d', e'⟩ ⟨n', a', b', c', d', e'⟩ W hT)
      rw [show composeS ⟨n', a', b', c', d', e'⟩ ⟨n', a', b', c', d', e'⟩ = (⟨n', a', b', c', d', e'⟩, 0) from kc] at HC
      obtain ⟨x0, x1, x2, x3, x4, x5, x6, x7⟩ := hx
      dsimp only at x0 x1 x2 x3 x4 x5 x6 x7
      have hzb : b6 < wr.heap.size := Nat.lt_of_lt_of_le HZ6.out (Y9.out.trans HE.out).size
      have hl2 : (i : Int) < 1 := by omega
      clear kc
      go_upto_region 16 with fail
      clear x0 x1 x2 x3 x4 x5 x6 x7 hzb hl2
      have HM : Hid ((wr.alloc (.cells #[.int .i64 n', .int .i64 a', .int .i64 b', .int .i64 c', .int .i64 d', .int .i64 e', .int .i64 0, .int .i64 0] 38)).heap[wr.heap.size]? = some (.cells #[.int .i64 n', .int .i64 a', .int .i64 b', .int .i64 c', .int .i64 d', .int .i64 e', .int .i64 0, .int .i64 0] 38 (0, 0))) := heap_alloc_new wr _
      have HE := hide (HE.out.alloc (.cells #[.int .i64 n', .int .i64 a', .int .i64 b', .int .i64 c', .int .i64 d', .int .i64 e', .int .i64 0, .int .i64 0] 38))
      generalize wr.alloc (.cells #[.int .i64 n', .int .i64 a', .int .i64 b', .int .i64 c', .int .i64 d', .int .i64 e', .int .i64 0, .int .i64 0] 38) = V1 at HM HE ⊢
      generalize wr.heap.size = bm at HM ⊢
      have x0 : V1.cell? ⟨bm, 0, none⟩ = some (.int .i64 n') := cells_at HM.out 0
      have x1 : V1.cell? ⟨bm, 1, none⟩ = some (.int .i64 a') := cells_at HM.out 1
      have x2 : V1.cell? ⟨bm, 2, none⟩ = some (.int .i64 b') := cells_at HM.out 2
      have x3 : V1.cell? ⟨bm, 3, none⟩ = some (.int .i64 c') := cells_at HM.out 3
      have x4 : V1.cell? ⟨bm, 4, none⟩ = some (.int .i64 d') := cells_at HM.out 4
      have x5 : V1.cell? ⟨bm, 5, none⟩ = some (.int .i64 e') := cells_at HM.out 5
      have hmz := lt_of_heap HM.out
      go_wp2_with fail
      refine (HC.out V1 (HT.out.ext (X9.out.trans HE.out))).mono ?_
      rintro e V2 ⟨rfl, E2⟩
      have HM := hide ((E2.b.block _ (lt_of_heap HM.out)).trans HM.out)
      have HE := hide (HE.out.trans E2)
      clear E2 x0 x1 x2 x3 x4 x5 hmz
      go_upto_region 17 with fail
      have HX : Hid ((V2.alloc (.cells #[.int .i64 n', .int .i64 a', .int .i64 b', .int .i64 c', .int .i64 d', .int .i64 e'] 32)).heap[V2.heap.size]? = some (.cells #[.int .i64 n', .int .i64 a', .int .i64 b', .int .i64 c', .int .i64 d', .int .i64 e'] 32 (0, 0))) := heap_alloc_new V2 _
      have HM := hide ((Below.heap_alloc V2 (.cells #[.int .i64 n', .int .i64 a', .int .i64 b', .int .i64 c', .int .i64 d', .int .i64 e'] 32) _ (lt_of_heap HM.out)).trans HM.out)
      have HE := hide (HE.out.alloc (.cells #[.int .i64 n', .int .i64 a', .int .i64 b', .int .i64 c', .int .i64 d', .int .i64 e'] 32))
      change Code.wp _ _ _ _ (V2.alloc (.cells #[.int .i64 n', .int .i64 a', .int .i64 b', .int .i64 c', .int .i64 d', .int .i64 e'] 32))
      generalize V2.alloc (.cells #[.int .i64 n', .int .i64 a', .int .i64 b', .int .i64 c', .int .i64 d', .int .i64 e'] 32) = V3 at HM HE HX ⊢
      generalize V2.heap.size = bx at HX ⊢
      have x0 : V3.cell? ⟨bm, 0, none⟩ = some (.int .i64 n') := cells_at HM.out 0
      have x1 : V3.cell? ⟨bm, 1, none⟩ = some (.int .i64 a') := cells_at HM.out 1
      have x2 : V3.cell? ⟨bm, 2, none⟩ = some (.int .i64 b') := cells_at HM.out 2
      have x3 : V3.cell? ⟨bm, 3, none⟩ = some (.int .i64 c') := cells_at HM.out 3
      have x4 : V3.cell? ⟨bm, 4, none⟩ = some (.int .i64 d') := cells_at HM.out 4
      have x5 : V3.cell? ⟨bm, 5, none⟩ = some (.int .i64 e') := cells_at HM.out 5
      have x6 : V3.cell? ⟨bm, 6, none⟩ = some (.int .i64 0) := cells_at HM.out 6
      have x7 : V3.cell? ⟨bm, 7, none⟩ = some (.int .i64 0) := cells_at HM.out 7
      have hmz := lt_of_heap HM.out
      have u0 : V3.cell? ⟨bx, 0, none⟩ = some (.int .i64 n') := cells_at HX.out 0
      have u1 : V3.cell? ⟨bx, 1, none⟩ = some (.int .i64 a') := cells_at HX.out 1
      have u2 : V3.cell? ⟨bx, 2, none⟩ = some (.int .i64 b') := cells_at HX.out 2
      have u3 : V3.cell? ⟨bx, 3, none⟩ = some (.int .i64 c') := cells_at HX.out 3
      have u4 : V3.cell? ⟨bx, 4, none⟩ = some (.int .i64 d') := cells_at HX.out 4
      have u5 : V3.cell? ⟨bx, 5, none⟩ = some (.int .i64 e') := cells_at HX.out 5
      have hxz := lt_of_heap HX.out
      have hq := neq_graph n' a' b' c' d' e' n' a' b' c' d' e'
      rw [show geq ⟨n', a', b', c', d', e'⟩ ⟨n', a', b', c', d', e'⟩ = true from geq_iff.2 rfl] at hq
      simp only [Bool.not_true] at hq
      go_wp2_with fail
      go_roundw
      case rel => exact ⟨i + 1, by omega, by go_num, HE.out⟩
      case measure => simp [intOf]; omega
    · obtain rfl : i = 1 := by omega
      go_wp2_with fail
      refine (HA.out _).mono ?_
      rintro e V5 ⟨rfl, E5⟩
      go_wp2_with fail
      go_ret
      exact ⟨rfl, X9.out.trans (HE.out.trans E5)⟩
set_option maxRecDepth 16000 in
set_option maxHeartbeats 4000000 in
theorem counts_law2 (n : Int) (h0 : 0 ≤ n) (h1 : n < 256) (hN : 1 + n % 4 = 2) (w : World) (hT : Tz w) : Calls Tryd.prog 3 #[.int .u8 n] w fun e w' => e = .returned (.bool true) ∧ Ext w w' := by
  obtain ⟨⟨A1, e1, l1, m1⟩, ⟨A2, e2, l2, m2⟩, ⟨A3, e3, l3, m3, k3⟩, g, e4, e5⟩ := cnt_ok (N := 2) (by decide) (by decide)
  have e1 : mdlA 1 2 1 = (A1, 0) := e1
  have e2 : partA 2 1 = (A2, 0) := e2
  have e3 : snapA 2 = (A3, 0) := e3
  have e4 : mdlA 4 2 0 = (⟨2, [[⟨⟨g, 0⟩, 0⟩]]⟩, 0) := e4
  have e5 : compC 2 = (g, 0) := e5
  have m1 : A1.len 0 = 5 := m1
  have m2 : A2.len 0 = 2 := m2
  have m3 : A3.len 0 = 3 := m3
  obtain ⟨A4, e4, l4, m4, v4⟩ : ∃ A4, mdlA 4 2 0 = (A4, 0) ∧ A4.L = 1 ∧ A4.len 0 = 1 ∧ A4.mv 0 0 = ⟨⟨g, 0⟩, 0⟩ := ⟨_, e4, rfl, rfl, rfl⟩
  have L4 : 0 < A4.L := by rw [l4]; decide
  have C1 := hide (fun W => (pcrash_any 2 1 W))
  have C2 := hide (fun W => (ppartition_any 2 1 W))
  have C3 := hide (fun W => (psnapshot_any 2 W))
  have C4 := hide (fun W => (pomit_any 2 0 W))
  have C5 := hide (fun W => (pcomp_any 2 W))
  rw [e1] at C1
  rw [e2] at C2
  rw [e3] at C3
  rw [e4] at C4
  rw [e5] at C5
  have HA := hide (fun W => awake17_any W)
  have HN := hide hN
  rw [m3] at k3
  have K3 := hide k3
  have HT := hide hT
  have L3 : 0 < A3.L := by rw [l3]; decide
  clear hN hT k3 e1 e2 e3 e4 e5
  go_enter Tryd.func3, Tryd.ntmps3
  go_wp2_with fail
  rw [HN.out]
  refine (C1.out _).mono ?_
  rintro e w1 ⟨v, rfl, hv, hE⟩
  have hr := hv.rep
  obtain ⟨p1, c1, rfl, q1, -, hat⟩ := hr.all_
  obtain ⟨b1, o1, rfl, z1, hat⟩ := hat l1
  have HA1 := hide (hat 0 l1)
  have X1 : Hid (Ext w w1) := by first | exact hE | exact ((Ext.refl w).alloc _).trans hE
  clear hat hr hv q1 hE
  go_wp2_with fail
  refine (C2.out _).mono ?_
  rintro e w2 ⟨v, rfl, hv, hE⟩
  have hr := hv.rep
  obtain ⟨p2, c2, rfl, q2, -, hat⟩ := hr.all_
  obtain ⟨b2, o2, rfl, z2, hat⟩ := hat l2
  have HA2 := hide (hat 0 l2)
  have B1 : Hid (BXc w2 w1.heap.size A1.n (.slice (some ⟨b1, o1, none⟩) A1.L c1)) := (hE.b.block _ (by simp)).trans (heap_alloc_new w1 _)
  have Y2 := hide (((Ext.refl w1).alloc (.cells #[.int .i64 A1.n, .slice (some ⟨b1, o1, none⟩) A1.L c1] 24)).trans hE)
  have X2 := hide (X1.out.trans Y2.out)
  clear hat hr hv q2 hE
  go_wp2_with fail
  refine (C3.out _).mono ?_
  rintro e w3 ⟨v, rfl, hv, hE⟩
  have hr := hv.rep
  obtain ⟨p3, c3, rfl, q3, -, hat⟩ := hr.all_
  obtain ⟨b3, o3, rfl, z3, hat⟩ := hat L3
  have HA3 := hide (hat 0 L3)
  have B2 : Hid (BXc w3 w2.heap.size A2.n (.slice (some ⟨b2, o2, none⟩) A2.L c2)) := (hE.b.block _ (by simp)).trans (heap_alloc_new w2 _)
  have Y3 := hide (((Ext.refl w2).alloc (.cells #[.int .i64 A2.n, .slice (some ⟨b2, o2, none⟩) A2.L c2] 24)).trans hE)
  have X3 := hide (X2.out.trans Y3.out)
  have B1 := hide (B1.out.ext Y3.out)
  clear hat hr hv q3 hE
  obtain ⟨d0, d1, dz⟩ := B1.out.facts
  obtain ⟨f0, f1, fz⟩ := B2.out.facts
  obtain ⟨s1, u1, r1, -, -, -⟩ := HA1.out
  obtain ⟨s2, u2, r2, -, -, -⟩ := HA2.out
  obtain ⟨s3, u3, r3, -, -, R3, at3⟩ := HA3.out
  replace r1 := r1 w3 (Y2.out.trans Y3.out)
  replace r2 := r2 w3 Y3.out
  rw [m3, Nat.add_zero] at r3
  have HR3 := hide r3
  have HZ3 := hide z3
  replace r3 := r3 w3 (Ext.refl w3)
  rw [m1, Nat.add_zero] at r1
  rw [m2, Nat.add_zero] at r2
  have z1 := Nat.lt_of_lt_of_le z1 (Y2.out.trans Y3.out).size
  have z2 := Nat.lt_of_lt_of_le z2 Y3.out.size
  have AT3 := hide at3
  clear at3 R3 HA1 HA2 HA3
  have hb1 : ((A1.L : Int) == 0) = false := beq_eq_false_iff_ne.2 (by omega)
  have hb2 : ((A2.L : Int) == 0) = false := beq_eq_false_iff_ne.2 (by omega)
  go_wp2_with fail
  obtain ⟨w4, hw4⟩ : ∃ w4, w3.alloc (.cells #[.int .i64 A3.n, .slice (some ⟨b3, o3, none⟩) 1 c3] 24) = w4 := ⟨_, rfl⟩
  have E34 : Ext w3 w4 := by rw [← hw4]; exact (Ext.refl w3).alloc _
  have X4 := hide (X3.out.trans E34)
  have g3 : BXc w4 w3.heap.size A3.n (.slice (some ⟨b3, o3, none⟩) 1 c3) := by rw [← hw4]; exact heap_alloc_new w3 _
  have B3 := hide g3
  have B1 := hide (B1.out.ext E34)
  have B2 := hide (B2.out.ext E34)
  replace r1 := (E34.cell (p := ⟨b1, o1, none⟩) z1).trans r1
  replace r2 := (E34.cell (p := ⟨b2, o2, none⟩) z2).trans r2
  replace r3 := (E34.cell (p := ⟨b3, o3, none⟩) z3).trans r3
  replace z1 := Nat.lt_of_lt_of_le z1 E34.size
  replace z2 := Nat.lt_of_lt_of_le z2 E34.size
  replace z3 := Nat.lt_of_lt_of_le z3 E34.size
  have Y4 := hide E34
  rw [hw4]
  clear hw4 d0 d1 dz f0 f1 fz E34 g3
  obtain ⟨d0, d1, dz⟩ := B1.out.facts
  obtain ⟨f0, f1, fz⟩ := B2.out.facts
  obtain ⟨g0, g1, gz⟩ := B3.out.facts
  have i1 : ∀ w : World, (Instr.index 30 (.agg #[.int .i64 0, .int .i64 1, .int .i64 2, .int .i64 5, .int .i64 15]) (.int .i64 2)).run Tryd.prog w = .ok (.int .i64 2) w := fun _ => by kernel_rfl
  have i2 : ∀ w : World, (Instr.index 30 (.agg #[.int .i64 0, .int .i64 1, .int .i64 3, .int .i64 13, .int .i64 75]) (.int .i64 2)).run Tryd.prog w = .ok (.int .i64 3) w := fun _ => by kernel_rfl
  refine wp_region_ext (by kernel_rfl) (by kernel_rfl) ?_
  repeat (go_big_quiet_step (fail))
  refine wpQuiet_nil ?_
  rintro w5 ⟨⟨_, E5⟩, rfl⟩
  have X5 := hide (X4.out.trans E5)
  have Y5 := hide (Y4.out.trans E5)
  have B3 := hide (B3.out.ext E5)
  clear E5 d0 d1 dz f0 f1 fz g0 g1 gz r1 r2 r3 z1 z2 i1 i2 B1 B2 X1 X2 X3 X4 Y2 Y3 Y4
  go_wp2_with fail
  refine (C5.out _).mono ?_
  rintro e w6 ⟨rfl, E6⟩
  have Y6 := hide (Y5.out.trans E6)
  have X6 := hide (X5.out.trans E6)
  have B3 := hide (B3.out.ext E6)
  clear E6
  go_wp2_with fail
  refine (C4.out _).mono ?_
  rintro e w7 ⟨v, rfl, hv, E7⟩
  have hr := hv.rep
  obtain ⟨p4, c4, rfl, q4, -, hat⟩ := hr.all_
  obtain ⟨b4, o4, rfl, z4, hat⟩ := hat L4
  obtain ⟨s4, u4, r4, -, -, -, at4⟩ := hat 0 L4
  replace r4 := r4 w7 (Ext.refl w7)
  obtain ⟨b5, o5, rfl, z5, at4⟩ := at4 (by rw [m4]; decide)
  have hm4 := (at4 0 (by rw [m4]; decide)).now (Ext.refl w7)
  rw [m4, Nat.add_zero] at r4
  rw [v4] at hm4
  have E67 := ((Ext.refl w6).alloc (.cells #[.int .i64 g.n, .int .i64 g.h0, .int .i64 g.h1, .int .i64 g.h2, .int .i64 g.h3, .int .i64 g.h4] 32)).trans E7
  have G6 : Hid (GrBox w7 w6.heap.size g) := (E7.b.block _ (by simp)).trans (heap_alloc_new w6 _)
  have Y7 := hide (Y6.out.trans E67)
  have X7 := hide (X6.out.trans E67)
  have B3 := hide (B3.out.ext E67)
  clear E67 E7 hv hr hat at4 q4
  obtain ⟨g0, g1, g2, g3, g4, g5, gz⟩ := G6.out.cells
  obtain ⟨y0, y1, y2, y3, y4, y5, y6, y7⟩ := hm4
  dsimp only
  dsimp only at y0 y1 y2 y3 y4 y5 y6 y7
  simp only [Nat.zero_mul, Nat.add_zero] at y0 y1 y2 y3 y4 y5 y6 y7
  obtain ⟨w8, hw8⟩ : ∃ w8, w7.alloc (.cells #[.int .i64 A4.n, .slice (some ⟨b4, o4, none⟩) A4.L c4] 24) = w8 := ⟨_, rfl⟩
  have E78 : Ext w7 w8 := by rw [← hw8]; exact (Ext.refl w7).alloc _
  have B4 : BXc w8 w7.heap.size A4.n (.slice (some ⟨b4, o4, none⟩) A4.L c4) := by rw [← hw8]; exact heap_alloc_new w7 _
  rw [l4] at B4
  go_upto_region 11 with fail
  rw [← l4, hw8, l4]
  clear hw8
  have Y8 := hide (Y7.out.trans E78)
  have X8 := hide (X7.out.trans E78)
  have B3 := hide (B3.out.ext E78)
  have G8 := hide (show GrBox w8 w6.heap.size g from (E78.b.block _ (lt_of_heap G6.out)).trans G6.out)
  replace r4 := (E78.cell (p := ⟨b4, o4, none⟩) z4).trans r4
  replace y0 := (E78.cell (p := ⟨b5, o5, none⟩) z5).trans y0
  replace y1 := (E78.cell (p := ⟨b5, o5 + 1, none⟩) z5).trans y1
  replace y2 := (E78.cell (p := ⟨b5, o5 + 2, none⟩) z5).trans y2
  replace y3 := (E78.cell (p := ⟨b5, o5 + 3, none⟩) z5).trans y3
  replace y4 := (E78.cell (p := ⟨b5, o5 + 4, none⟩) z5).trans y4
  replace y5 := (E78.cell (p := ⟨b5, o5 + 5, none⟩) z5).trans y5
  replace y6 := (E78.cell (p := ⟨b5, o5 + 6, none⟩) z5).trans y6
  replace y7 := (E78.cell (p := ⟨b5, o5 + 7, none⟩) z5).trans y7
  replace z4 := Nat.lt_of_lt_of_le z4 E78.size
  replace z5 := Nat.lt_of_lt_of_le z5 E78.size
  clear g0 g1 g2 g3 g4 g5 gz E78
  obtain ⟨g0, g1, g2, g3, g4, g5, gz⟩ := G8.out.cells
  obtain ⟨f0, f1, fz⟩ := BXc.facts B4
  have hq := neq_move g.n g.h0 g.h1 g.h2 g.h3 g.h4 0 0 g.n g.h0 g.h1 g.h2 g.h3 g.h4 0 0
  rw [show meq ⟨⟨⟨g.n, g.h0, g.h1, g.h2, g.h3, g.h4⟩, 0⟩, 0⟩ ⟨⟨⟨g.n, g.h0, g.h1, g.h2, g.h3, g.h4⟩, 0⟩, 0⟩ = true from meq_iff.2 rfl] at hq
  simp only [Bool.not_true] at hq
  refine wp_region_ext (by kernel_rfl) (by kernel_rfl) ?_
  repeat (go_big_quiet_step (fail))
  refine wpQuiet_nil ?_
  rintro w9 ⟨⟨_, E9⟩, rfl⟩
  have X9 := hide (X8.out.trans E9)
  have Y9 := hide (Y8.out.trans E9)
  have B3 := hide (B3.out.ext E9)
  clear E9 g0 g1 g2 g3 g4 g5 gz f0 f1 fz hq y0 y1 y2 y3 y4 y5 y6 y7 r4 z4 z5 G8 G6 X8 X7 X6 X5 Y8 Y7 Y6 Y5
  obtain ⟨b6, o6, rfl, z6, at6⟩ := AT3.out (by rw [m3]; decide)
  have HAT := hide at6
  have HZ6 := hide z6
  have r3 := HR3.out w9 Y9.out
  have z3 := Nat.lt_of_lt_of_le HZ3.out Y9.out.size
  obtain ⟨d0, d1, dz⟩ := B3.out.facts
  clear at6 z6
  go_wp2_with fail
  have HE : Hid (Ext w9 w9) := Ext.refl w9
  clear d0 d1 dz r3 z3
  go_loopw [15, 16, 17, 141] (fun _ _ _ x V => ∃ i : Nat, i ≤ 3 ∧ x = .int .i64 i ∧ Hid (Ext w9 V)) (fun _ _ _ x _ => 3 - (intOf x).toNat)
  case atStart => exact ⟨0, by omega, rfl, HE⟩
  case round =>
    clear HE
    obtain ⟨i, hi, rfl, HE⟩ := hrel
    by_cases hlt : i < 3
    · have hx := (HAT.out i (by rw [m3]; exact hlt)).now (Y9.out.trans HE.out)
      obtain ⟨kf, kt, kc⟩ := K3.out i hlt
      generalize A3.mv 0 i = mm at hx kf kt kc
      obtain ⟨⟨⟨n', a', b', c', d', e'⟩, ff⟩, tt⟩ := mm
      have kf : ff = 0 := kf
      have kt : tt = 0 := kt
      subst kf kt
      have HC := hide (fun W (hT : Tz W) => compose_any ⟨n', a', b', c', d', e'⟩ ⟨n', a', b', c', d', e'⟩ W hT)
      rw [show composeS ⟨n', a', b', c', d', e'⟩ ⟨n', a', b', c', d', e'⟩ = (⟨n', a', b', c', d', e'⟩, 0) from kc] at HC
      obtain ⟨x0, x1, x2, x3, x4, x5, x6, x7⟩ := hx
      dsimp only at x0 x1 x2 x3 x4 x5 x6 x7
      have hzb : b6 < wr.heap.size := Nat.lt_of_lt_of_le HZ6.out (Y9.out.trans HE.out).size
      have hl2 : (i : Int) < 3 := by omega
      clear kc
      go_upto_region 16 with fail
      clear x0 x1 x2 x3 x4 x5 x6 x7 hzb hl2
      have HM : Hid ((wr.alloc (.cells #[.int .i64 n', .int .i64 a', .int .i64 b', .int .i64 c', .int .i64 d', .int .i64 e', .int .i64 0, .int .i64 0] 38)).heap[wr.heap.size]? = some (.cells #[.int .i64 n', .int .i64 a', .int .i64 b', .int .i64 c', .int .i64 d', .int .i64 e', .int .i64 0, .int .i64 0] 38 (0, 0))) := heap_alloc_new wr _
      have HE := hide (HE.out.alloc (.cells #[.int .i64 n', .int .i64 a', .int .i64 b', .int .i64 c', .int .i64 d', .int .i64 e', .int .i64 0, .int .i64 0] 38))
      generalize wr.alloc (.cells #[.int .i64 n', .int .i64 a', .int .i64 b', .int .i64 c', .int .i64 d', .int .i64 e', .int .i64 0, .int .i64 0] 38) = V1 at HM HE ⊢
      generalize wr.heap.size = bm at HM ⊢
      have x0 : V1.cell? ⟨bm, 0, none⟩ = some (.int .i64 n') := cells_at HM.out 0
      have x1 : V1.cell? ⟨bm, 1, none⟩ = some (.int .i64 a') := cells_at HM.out 1
      have x2 : V1.cell? ⟨bm, 2, none⟩ = some (.int .i64 b') := cells_at HM.out 2
      have x3 : V1.cell? ⟨bm, 3, none⟩ = some (.int .i64 c') := cells_at HM.out 3
      have x4 : V1.cell? ⟨bm, 4, none⟩ = some (.int .i64 d') := cells_at HM.out 4
      have x5 : V1.cell? ⟨bm, 5, none⟩ = some (.int .i64 e') := cells_at HM.out 5
      have hmz := lt_of_heap HM.out
      go_wp2_with fail
      refine (HC.out V1 (HT.out.ext (X9.out.trans HE.out))).mono ?_
      rintro e V2 ⟨rfl, E2⟩
      have HM := hide ((E2.b.block _ (lt_of_heap HM.out)).trans HM.out)
      have HE := hide (HE.out.trans E2)
      clear E2 x0 x1 x2 x3 x4 x5 hmz
      go_upto_region 17 with fail
      have HX : Hid ((V2.alloc (.cells #[.int .i64 n', .int .i64 a', .int .i64 b', .int .i64 c', .int .i64 d', .int .i64 e'] 32)).heap[V2.heap.size]? = some (.cells #[.int .i64 n', .int .i64 a', .int .i64 b', .int .i64 c', .int .i64 d', .int .i64 e'] 32 (0, 0))) := heap_alloc_new V2 _
      have HM := hide ((Below.heap_alloc V2 (.cells #[.int .i64 n', .int .i64 a', .int .i64 b', .int .i64 c', .int .i64 d', .int .i64 e'] 32) _ (lt_of_heap HM.out)).trans HM.out)
      have HE := hide (HE.out.alloc (.cells #[.int .i64 n', .int .i64 a', .int .i64 b', .int .i64 c', .int .i64 d', .int .i64 e'] 32))
      change Code.wp _ _ _ _ (V2.alloc (.cells #[.int .i64 n', .int .i64 a', .int .i64 b', .int .i64 c', .int .i64 d', .int .i64 e'] 32))
      generalize V2.alloc (.cells #[.int .i64 n', .int .i64 a', .int .i64 b', .int .i64 c', .int .i64 d', .int .i64 e'] 32) = V3 at HM HE HX ⊢
      generalize V2.heap.size = bx at HX ⊢
      have x0 : V3.cell? ⟨bm, 0, none⟩ = some (.int .i64 n') := cells_at HM.out 0
      have x1 : V3.cell? ⟨bm, 1, none⟩ = some (.int .i64 a') := cells_at HM.out 1
      have x2 : V3.cell? ⟨bm, 2, none⟩ = some (.int .i64 b') := cells_at HM.out 2
      have x3 : V3.cell? ⟨bm, 3, none⟩ = some (.int .i64 c') := cells_at HM.out 3
      have x4 : V3.cell? ⟨bm, 4, none⟩ = some (.int .i64 d') := cells_at HM.out 4
      have x5 : V3.cell? ⟨bm, 5, none⟩ = some (.int .i64 e') := cells_at HM.out 5
      have x6 : V3.cell? ⟨bm, 6, none⟩ = some (.int .i64 0) := cells_at HM.out 6
      have x7 : V3.cell? ⟨bm, 7, none⟩ = some (.int .i64 0) := cells_at HM.out 7
      have hmz := lt_of_heap HM.out
      have u0 : V3.cell? ⟨bx, 0, none⟩ = some (.int .i64 n') := cells_at HX.out 0
      have u1 : V3.cell? ⟨bx, 1, none⟩ = some (.int .i64 a') := cells_at HX.out 1
      have u2 : V3.cell? ⟨bx, 2, none⟩ = some (.int .i64 b') := cells_at HX.out 2
      have u3 : V3.cell? ⟨bx, 3, none⟩ = some (.int .i64 c') := cells_at HX.out 3
      have u4 : V3.cell? ⟨bx, 4, none⟩ = some (.int .i64 d') := cells_at HX.out 4
      have u5 : V3.cell? ⟨bx, 5, none⟩ = some (.int .i64 e') := cells_at HX.out 5
      have hxz := lt_of_heap HX.out
      have hq := neq_graph n' a' b' c' d' e' n' a' b' c' d' e'
      rw [show geq ⟨n', a', b', c', d', e'⟩ ⟨n', a', b', c', d', e'⟩ = true from geq_iff.2 rfl] at hq
      simp only [Bool.not_true] at hq
      go_wp2_with fail
      go_roundw
      case rel => exact ⟨i + 1, by omega, by go_num, HE.out⟩
      case measure => simp [intOf]; omega
    · obtain rfl : i = 3 := by omega
      go_wp2_with fail
      refine (HA.out _).mono ?_
      rintro e V5 ⟨rfl, E5⟩
      go_wp2_with fail
      go_ret
      exact ⟨rfl, X9.out.trans (HE.out.trans E5)⟩
set_option maxRecDepth 16000 in
set_option maxHeartbeats 4000000 in
theorem counts_law3 (n : Int) (h0 : 0 ≤ n) (h1 : n < 256) (hN : 1 + n % 4 = 3) (w : World) (hT : Tz w) : Calls Tryd.prog 3 #[.int .u8 n] w fun e w' => e = .returned (.bool true) ∧ Ext w w' := by
  obtain ⟨⟨A1, e1, l1, m1⟩, ⟨A2, e2, l2, m2⟩, ⟨A3, e3, l3, m3, k3⟩, g, e4, e5⟩ := cnt_ok (N := 3) (by decide) (by decide)
  have e1 : mdlA 1 3 1 = (A1, 0) := e1
  have e2 : partA 3 1 = (A2, 0) := e2
  have e3 : snapA 3 = (A3, 0) := e3
  have e4 : mdlA 4 3 0 = (⟨3, [[⟨⟨g, 0⟩, 0⟩]]⟩, 0) := e4
  have e5 : compC 3 = (g, 0) := e5
  have m1 : A1.len 0 = 13 := m1
  have m2 : A2.len 0 = 5 := m2
  have m3 : A3.len 0 = 13 := m3
  obtain ⟨A4, e4, l4, m4, v4⟩ : ∃ A4, mdlA 4 3 0 = (A4, 0) ∧ A4.L = 1 ∧ A4.len 0 = 1 ∧ A4.mv 0 0 = ⟨⟨g, 0⟩, 0⟩ := ⟨_, e4, rfl, rfl, rfl⟩
  have L4 : 0 < A4.L := by rw [l4]; decide
  have C1 := hide (fun W => (pcrash_any 3 1 W))
  have C2 := hide (fun W => (ppartition_any 3 1 W))
  have C3 := hide (fun W => (psnapshot_any 3 W))
  have C4 := hide (fun W => (pomit_any 3 0 W))
  have C5 := hide (fun W => (pcomp_any 3 W))
  rw [e1] at C1
  rw [e2] at C2
  rw [e3] at C3
  rw [e4] at C4
  rw [e5] at C5
  have HA := hide (fun W => awake17_any W)
  have HN := hide hN
  rw [m3] at k3
  have K3 := hide k3
  have HT := hide hT
  have L3 : 0 < A3.L := by rw [l3]; decide
  clear hN hT k3 e1 e2 e3 e4 e5
  go_enter Tryd.func3, Tryd.ntmps3
  go_wp2_with fail
  rw [HN.out]
  refine (C1.out _).mono ?_
  rintro e w1 ⟨v, rfl, hv, hE⟩
  have hr := hv.rep
  obtain ⟨p1, c1, rfl, q1, -, hat⟩ := hr.all_
  obtain ⟨b1, o1, rfl, z1, hat⟩ := hat l1
  have HA1 := hide (hat 0 l1)
  have X1 : Hid (Ext w w1) := by first | exact hE | exact ((Ext.refl w).alloc _).trans hE
  clear hat hr hv q1 hE
  go_wp2_with fail
  refine (C2.out _).mono ?_
  rintro e w2 ⟨v, rfl, hv, hE⟩
  have hr := hv.rep
  obtain ⟨p2, c2, rfl, q2, -, hat⟩ := hr.all_
  obtain ⟨b2, o2, rfl, z2, hat⟩ := hat l2
  have HA2 := hide (hat 0 l2)
  have B1 : Hid (BXc w2 w1.heap.size A1.n (.slice (some ⟨b1, o1, none⟩) A1.L c1)) := (hE.b.block _ (by simp)).trans (heap_alloc_new w1 _)
  have Y2 := hide (((Ext.refl w1).alloc (.cells #[.int .i64 A1.n, .slice (some ⟨b1, o1, none⟩) A1.L c1] 24)).trans hE)
  have X2 := hide (X1.out.trans Y2.out)
  clear hat hr hv q2 hE
  go_wp2_with fail
  refine (C3.out _).mono ?_
  rintro e w3 ⟨v, rfl, hv, hE⟩
  have hr := hv.rep
  obtain ⟨p3, c3, rfl, q3, -, hat⟩ := hr.all_
  obtain ⟨b3, o3, rfl, z3, hat⟩ := hat L3
  have HA3 := hide (hat 0 L3)
  have B2 : Hid (BXc w3 w2.heap.size A2.n (.slice (some ⟨b2, o2, none⟩) A2.L c2)) := (hE.b.block _ (by simp)).trans (heap_alloc_new w2 _)
  have Y3 := hide (((Ext.refl w2).alloc (.cells #[.int .i64 A2.n, .slice (some ⟨b2, o2, none⟩) A2.L c2] 24)).trans hE)
  have X3 := hide (X2.out.trans Y3.out)
  have B1 := hide (B1.out.ext Y3.out)
  clear hat hr hv q3 hE
  obtain ⟨d0, d1, dz⟩ := B1.out.facts
  obtain ⟨f0, f1, fz⟩ := B2.out.facts
  obtain ⟨s1, u1, r1, -, -, -⟩ := HA1.out
  obtain ⟨s2, u2, r2, -, -, -⟩ := HA2.out
  obtain ⟨s3, u3, r3, -, -, R3, at3⟩ := HA3.out
  replace r1 := r1 w3 (Y2.out.trans Y3.out)
  replace r2 := r2 w3 Y3.out
  rw [m3, Nat.add_zero] at r3
  have HR3 := hide r3
  have HZ3 := hide z3
  replace r3 := r3 w3 (Ext.refl w3)
  rw [m1, Nat.add_zero] at r1
  rw [m2, Nat.add_zero] at r2
  have z1 := Nat.lt_of_lt_of_le z1 (Y2.out.trans Y3.out).size
  have z2 := Nat.lt_of_lt_of_le z2 Y3.out.size
  have AT3 := hide at3
  clear at3 R3 HA1 HA2 HA3
  have hb1 : ((A1.L : Int) == 0) = false := beq_eq_false_iff_ne.2 (by omega)
  have hb2 : ((A2.L : Int) == 0) = false := beq_eq_false_iff_ne.2 (by omega)
  go_wp2_with fail
  obtain ⟨w4, hw4⟩ : ∃ w4, w3.alloc (.cells #[.int .i64 A3.n, .slice (some ⟨b3, o3, none⟩) 1 c3] 24) = w4 := ⟨_, rfl⟩
  have E34 : Ext w3 w4 := by rw [← hw4]; exact (Ext.refl w3).alloc _
  have X4 := hide (X3.out.trans E34)
  have g3 : BXc w4 w3.heap.size A3.n (.slice (some ⟨b3, o3, none⟩) 1 c3) := by rw [← hw4]; exact heap_alloc_new w3 _
  have B3 := hide g3
  have B1 := hide (B1.out.ext E34)
  have B2 := hide (B2.out.ext E34)
  replace r1 := (E34.cell (p := ⟨b1, o1, none⟩) z1).trans r1
  replace r2 := (E34.cell (p := ⟨b2, o2, none⟩) z2).trans r2
  replace r3 := (E34.cell (p := ⟨b3, o3, none⟩) z3).trans r3
  replace z1 := Nat.lt_of_lt_of_le z1 E34.size
  replace z2 := Nat.lt_of_lt_of_le z2 E34.size
  replace z3 := Nat.lt_of_lt_of_le z3 E34.size
  have Y4 := hide E34
  rw [hw4]
  clear hw4 d0 d1 dz f0 f1 fz E34 g3
  obtain ⟨d0, d1, dz⟩ := B1.out.facts
  obtain ⟨f0, f1, fz⟩ := B2.out.facts
  obtain ⟨g0, g1, gz⟩ := B3.out.facts
  have i1 : ∀ w : World, (Instr.index 30 (.agg #[.int .i64 0, .int .i64 1, .int .i64 2, .int .i64 5, .int .i64 15]) (.int .i64 3)).run Tryd.prog w = .ok (.int .i64 5) w := fun _ => by kernel_rfl
  have i2 : ∀ w : World, (Instr.index 30 (.agg #[.int .i64 0, .int .i64 1, .int .i64 3, .int .i64 13, .int .i64 75]) (.int .i64 3)).run Tryd.prog w = .ok (.int .i64 13) w := fun _ => by kernel_rfl
  refine wp_region_ext (by kernel_rfl) (by kernel_rfl) ?_
  repeat (go_big_quiet_step (fail))
  refine wpQuiet_nil ?_
  rintro w5 ⟨⟨_, E5⟩, rfl⟩
  have X5 := hide (X4.out.trans E5)
  have Y5 := hide (Y4.out.trans E5)
  have B3 := hide (B3.out.ext E5)
  clear E5 d0 d1 dz f0 f1 fz g0 g1 gz r1 r2 r3 z1 z2 i1 i2 B1 B2 X1 X2 X3 X4 Y2 Y3 Y4
  go_wp2_with fail
  refine (C5.out _).mono ?_
  rintro e w6 ⟨rfl, E6⟩
  have Y6 := hide (Y5.out.trans E6)
  have X6 := hide (X5.out.trans E6)
  have B3 := hide (B3.out.ext E6)
  clear E6
  go_wp2_with fail
  refine (C4.out _).mono ?_
  rintro e w7 ⟨v, rfl, hv, E7⟩
  have hr := hv.rep
  obtain ⟨p4, c4, rfl, q4, -, hat⟩ := hr.all_
  obtain ⟨b4, o4, rfl, z4, hat⟩ := hat L4
  obtain ⟨s4, u4, r4, -, -, -, at4⟩ := hat 0 L4
  replace r4 := r4 w7 (Ext.refl w7)
  obtain ⟨b5, o5, rfl, z5, at4⟩ := at4 (by rw [m4]; decide)
  have hm4 := (at4 0 (by rw [m4]; decide)).now (Ext.refl w7)
  rw [m4, Nat.add_zero] at r4
  rw [v4] at hm4
  have E67 := ((Ext.refl w6).alloc (.cells #[.int .i64 g.n, .int .i64 g.h0, .int .i64 g.h1, .int .i64 g.h2, .int .i64 g.h3, .int .i64 g.h4] 32)).trans E7
  have G6 : Hid (GrBox w7 w6.heap.size g) := (E7.b.block _ (by simp)).trans (heap_alloc_new w6 _)
  have Y7 := hide (Y6.out.trans E67)
  have X7 := hide (X6.out.trans E67)
  have B3 := hide (B3.out.ext E67)
  clear E67 E7 hv hr hat at4 q4
  obtain ⟨g0, g1, g2, g3, g4, g5, gz⟩ := G6.out.cells
  obtain ⟨y0, y1, y2, y3, y4, y5, y6, y7⟩ := hm4
  dsimp only
  dsimp only at y0 y1 y2 y3 y4 y5 y6 y7
  simp only [Nat.zero_mul, Nat.add_zero] at y0 y1 y2 y3 y4 y5 y6 y7
  obtain ⟨w8, hw8⟩ : ∃ w8, w7.alloc (.cells #[.int .i64 A4.n, .slice (some ⟨b4, o4, none⟩) A4.L c4] 24) = w8 := ⟨_, rfl⟩
  have E78 : Ext w7 w8 := by rw [← hw8]; exact (Ext.refl w7).alloc _
  have B4 : BXc w8 w7.heap.size A4.n (.slice (some ⟨b4, o4, none⟩) A4.L c4) := by rw [← hw8]; exact heap_alloc_new w7 _
  rw [l4] at B4
  go_upto_region 11 with fail
  rw [← l4, hw8, l4]
  clear hw8
  have Y8 := hide (Y7.out.trans E78)
  have X8 := hide (X7.out.trans E78)
  have B3 := hide (B3.out.ext E78)
  have G8 := hide (show GrBox w8 w6.heap.size g from (E78.b.block _ (lt_of_heap G6.out)).trans G6.out)
  replace r4 := (E78.cell (p := ⟨b4, o4, none⟩) z4).trans r4
  replace y0 := (E78.cell (p := ⟨b5, o5, none⟩) z5).trans y0
  replace y1 := (E78.cell (p := ⟨b5, o5 + 1, none⟩) z5).trans y1
  replace y2 := (E78.cell (p := ⟨b5, o5 + 2, none⟩) z5).trans y2
  replace y3 := (E78.cell (p := ⟨b5, o5 + 3, none⟩) z5).trans y3
  replace y4 := (E78.cell (p := ⟨b5, o5 + 4, none⟩) z5).trans y4
  replace y5 := (E78.cell (p := ⟨b5, o5 + 5, none⟩) z5).trans y5
  replace y6 := (E78.cell (p := ⟨b5, o5 + 6, none⟩) z5).trans y6
  replace y7 := (E78.cell (p := ⟨b5, o5 + 7, none⟩) z5).trans y7
  replace z4 := Nat.lt_of_lt_of_le z4 E78.size
  replace z5 := Nat.lt_of_lt_of_le z5 E78.size
  clear g0 g1 g2 g3 g4 g5 gz E78
  obtain ⟨g0, g1, g2, g3, g4, g5, gz⟩ := G8.out.cells
  obtain ⟨f0, f1, fz⟩ := BXc.facts B4
  have hq := neq_move g.n g.h0 g.h1 g.h2 g.h3 g.h4 0 0 g.n g.h0 g.h1 g.h2 g.h3 g.h4 0 0
  rw [show meq ⟨⟨⟨g.n, g.h0, g.h1, g.h2, g.h3, g.h4⟩, 0⟩, 0⟩ ⟨⟨⟨g.n, g.h0, g.h1, g.h2, g.h3, g.h4⟩, 0⟩, 0⟩ = true from meq_iff.2 rfl] at hq
  simp only [Bool.not_true] at hq
  refine wp_region_ext (by kernel_rfl) (by kernel_rfl) ?_
  repeat (go_big_quiet_step (fail))
  refine wpQuiet_nil ?_
  rintro w9 ⟨⟨_, E9⟩, rfl⟩
  have X9 := hide (X8.out.trans E9)
  have Y9 := hide (Y8.out.trans E9)
  have B3 := hide (B3.out.ext E9)
  clear E9 g0 g1 g2 g3 g4 g5 gz f0 f1 fz hq y0 y1 y2 y3 y4 y5 y6 y7 r4 z4 z5 G8 G6 X8 X7 X6 X5 Y8 Y7 Y6 Y5
  obtain ⟨b6, o6, rfl, z6, at6⟩ := AT3.out (by rw [m3]; decide)
  have HAT := hide at6
  have HZ6 := hide z6
  have r3 := HR3.out w9 Y9.out
  have z3 := Nat.lt_of_lt_of_le HZ3.out Y9.out.size
  obtain ⟨d0, d1, dz⟩ := B3.out.facts
  clear at6 z6
  go_wp2_with fail
  have HE : Hid (Ext w9 w9) := Ext.refl w9
  clear d0 d1 dz r3 z3
  go_loopw [15, 16, 17, 141] (fun _ _ _ x V => ∃ i : Nat, i ≤ 13 ∧ x = .int .i64 i ∧ Hid (Ext w9 V)) (fun _ _ _ x _ => 13 - (intOf x).toNat)
  case atStart => exact ⟨0, by omega, rfl, HE⟩
  case round =>
    clear HE
    obtain ⟨i, hi, rfl, HE⟩ := hrel
    by_cases hlt : i < 13
    · have hx := (HAT.out i (by rw [m3]; exact hlt)).now (Y9.out.trans HE.out)
      obtain ⟨kf, kt, kc⟩ := K3.out i hlt
      generalize A3.mv 0 i = mm at hx kf kt kc
      obtain ⟨⟨⟨n', a', b', c', d', e'⟩, ff⟩, tt⟩ := mm
      have kf : ff = 0 := kf
      have kt : tt = 0 := kt
      subst kf kt
      have HC := hide (fun W (hT : Tz W) => compose_any ⟨n', a', b', c', d', e'⟩ ⟨n', a', b', c', d', e'⟩ W hT)
      rw [show composeS ⟨n', a', b', c', d', e'⟩ ⟨n', a', b', c', d', e'⟩ = (⟨n', a', b', c', d', e'⟩, 0) from kc] at HC
      obtain ⟨x0, x1, x2, x3, x4, x5, x6, x7⟩ := hx
      dsimp only at x0 x1 x2 x3 x4 x5 x6 x7
      have hzb : b6 < wr.heap.size := Nat.lt_of_lt_of_le HZ6.out (Y9.out.trans HE.out).size
      have hl2 : (i : Int) < 13 := by omega
      clear kc
      go_upto_region 16 with fail
      clear x0 x1 x2 x3 x4 x5 x6 x7 hzb hl2
      have HM : Hid ((wr.alloc (.cells #[.int .i64 n', .int .i64 a', .int .i64 b', .int .i64 c', .int .i64 d', .int .i64 e', .int .i64 0, .int .i64 0] 38)).heap[wr.heap.size]? = some (.cells #[.int .i64 n', .int .i64 a', .int .i64 b', .int .i64 c', .int .i64 d', .int .i64 e', .int .i64 0, .int .i64 0] 38 (0, 0))) := heap_alloc_new wr _
      have HE := hide (HE.out.alloc (.cells #[.int .i64 n', .int .i64 a', .int .i64 b', .int .i64 c', .int .i64 d', .int .i64 e', .int .i64 0, .int .i64 0] 38))
      generalize wr.alloc (.cells #[.int .i64 n', .int .i64 a', .int .i64 b', .int .i64 c', .int .i64 d', .int .i64 e', .int .i64 0, .int .i64 0] 38) = V1 at HM HE ⊢
      generalize wr.heap.size = bm at HM ⊢
      have x0 : V1.cell? ⟨bm, 0, none⟩ = some (.int .i64 n') := cells_at HM.out 0
      have x1 : V1.cell? ⟨bm, 1, none⟩ = some (.int .i64 a') := cells_at HM.out 1
      have x2 : V1.cell? ⟨bm, 2, none⟩ = some (.int .i64 b') := cells_at HM.out 2
      have x3 : V1.cell? ⟨bm, 3, none⟩ = some (.int .i64 c') := cells_at HM.out 3
      have x4 : V1.cell? ⟨bm, 4, none⟩ = some (.int .i64 d') := cells_at HM.out 4
      have x5 : V1.cell? ⟨bm, 5, none⟩ = some (.int .i64 e') := cells_at HM.out 5
      have hmz := lt_of_heap HM.out
      go_wp2_with fail
      refine (HC.out V1 (HT.out.ext (X9.out.trans HE.out))).mono ?_
      rintro e V2 ⟨rfl, E2⟩
      have HM := hide ((E2.b.block _ (lt_of_heap HM.out)).trans HM.out)
      have HE := hide (HE.out.trans E2)
      clear E2 x0 x1 x2 x3 x4 x5 hmz
      go_upto_region 17 with fail
      have HX : Hid ((V2.alloc (.cells #[.int .i64 n', .int .i64 a', .int .i64 b', .int .i64 c', .int .i64 d', .int .i64 e'] 32)).heap[V2.heap.size]? = some (.cells #[.int .i64 n', .int .i64 a', .int .i64 b', .int .i64 c', .int .i64 d', .int .i64 e'] 32 (0, 0))) := heap_alloc_new V2 _
      have HM := hide ((Below.heap_alloc V2 (.cells #[.int .i64 n', .int .i64 a', .int .i64 b', .int .i64 c', .int .i64 d', .int .i64 e'] 32) _ (lt_of_heap HM.out)).trans HM.out)
      have HE := hide (HE.out.alloc (.cells #[.int .i64 n', .int .i64 a', .int .i64 b', .int .i64 c', .int .i64 d', .int .i64 e'] 32))
      change Code.wp _ _ _ _ (V2.alloc (.cells #[.int .i64 n', .int .i64 a', .int .i64 b', .int .i64 c', .int .i64 d', .int .i64 e'] 32))
      generalize V2.alloc (.cells #[.int .i64 n', .int .i64 a', .int .i64 b', .int .i64 c', .int .i64 d', .int .i64 e'] 32) = V3 at HM HE HX ⊢
      generalize V2.heap.size = bx at HX ⊢
      have x0 : V3.cell? ⟨bm, 0, none⟩ = some (.int .i64 n') := cells_at HM.out 0
      have x1 : V3.cell? ⟨bm, 1, none⟩ = some (.int .i64 a') := cells_at HM.out 1
      have x2 : V3.cell? ⟨bm, 2, none⟩ = some (.int .i64 b') := cells_at HM.out 2
      have x3 : V3.cell? ⟨bm, 3, none⟩ = some (.int .i64 c') := cells_at HM.out 3
      have x4 : V3.cell? ⟨bm, 4, none⟩ = some (.int .i64 d') := cells_at HM.out 4
      have x5 : V3.cell? ⟨bm, 5, none⟩ = some (.int .i64 e') := cells_at HM.out 5
      have x6 : V3.cell? ⟨bm, 6, none⟩ = some (.int .i64 0) := cells_at HM.out 6
      have x7 : V3.cell? ⟨bm, 7, none⟩ = some (.int .i64 0) := cells_at HM.out 7
      have hmz := lt_of_heap HM.out
      have u0 : V3.cell? ⟨bx, 0, none⟩ = some (.int .i64 n') := cells_at HX.out 0
      have u1 : V3.cell? ⟨bx, 1, none⟩ = some (.int .i64 a') := cells_at HX.out 1
      have u2 : V3.cell? ⟨bx, 2, none⟩ = some (.int .i64 b') := cells_at HX.out 2
      have u3 : V3.cell? ⟨bx, 3, none⟩ = some (.int .i64 c') := cells_at HX.out 3
      have u4 : V3.cell? ⟨bx, 4, none⟩ = some (.int .i64 d') := cells_at HX.out 4
      have u5 : V3.cell? ⟨bx, 5, none⟩ = some (.int .i64 e') := cells_at HX.out 5
      have hxz := lt_of_heap HX.out
      have hq := neq_graph n' a' b' c' d' e' n' a' b' c' d' e'
      rw [show geq ⟨n', a', b', c', d', e'⟩ ⟨n', a', b', c', d', e'⟩ = true from geq_iff.2 rfl] at hq
      simp only [Bool.not_true] at hq
      go_wp2_with fail
      go_roundw
      case rel => exact ⟨i + 1, by omega, by go_num, HE.out⟩
      case measure => simp [intOf]; omega
    · obtain rfl : i = 13 := by omega
      go_wp2_with fail
      refine (HA.out _).mono ?_
      rintro e V5 ⟨rfl, E5⟩
      go_wp2_with fail
      go_ret
      exact ⟨rfl, X9.out.trans (HE.out.trans E5)⟩
set_option maxRecDepth 16000 in
set_option maxHeartbeats 4000000 in
theorem counts_law4 (n : Int) (h0 : 0 ≤ n) (h1 : n < 256) (hN : 1 + n % 4 = 4) (w : World) (hT : Tz w) : Calls Tryd.prog 3 #[.int .u8 n] w fun e w' => e = .returned (.bool true) ∧ Ext w w' := by
  obtain ⟨⟨A1, e1, l1, m1⟩, ⟨A2, e2, l2, m2⟩, ⟨A3, e3, l3, m3, k3⟩, g, e4, e5⟩ := cnt_ok (N := 4) (by decide) (by decide)
  have e1 : mdlA 1 4 1 = (A1, 0) := e1
  have e2 : partA 4 1 = (A2, 0) := e2
  have e3 : snapA 4 = (A3, 0) := e3
  have e4 : mdlA 4 4 0 = (⟨4, [[⟨⟨g, 0⟩, 0⟩]]⟩, 0) := e4
  have e5 : compC 4 = (g, 0) := e5
  have m1 : A1.len 0 = 33 := m1
  have m2 : A2.len 0 = 15 := m2
  have m3 : A3.len 0 = 75 := m3
  obtain ⟨A4, e4, l4, m4, v4⟩ : ∃ A4, mdlA 4 4 0 = (A4, 0) ∧ A4.L = 1 ∧ A4.len 0 = 1 ∧ A4.mv 0 0 = ⟨⟨g, 0⟩, 0⟩ := ⟨_, e4, rfl, rfl, rfl⟩
  have L4 : 0 < A4.L := by rw [l4]; decide
  have C1 := hide (fun W => (pcrash_any 4 1 W))
  have C2 := hide (fun W => (ppartition_any 4 1 W))
  have C3 := hide (fun W => (psnapshot_any 4 W))
  have C4 := hide (fun W => (pomit_any 4 0 W))
  have C5 := hide (fun W => (pcomp_any 4 W))
  rw [e1] at C1
  rw [e2] at C2
  rw [e3] at C3
  rw [e4] at C4
  rw [e5] at C5
  have HA := hide (fun W => awake17_any W)
  have HN := hide hN
  rw [m3] at k3
  have K3 := hide k3
  have HT := hide hT
  have L3 : 0 < A3.L := by rw [l3]; decide
  clear hN hT k3 e1 e2 e3 e4 e5
  go_enter Tryd.func3, Tryd.ntmps3
  go_wp2_with fail
  rw [HN.out]
  refine (C1.out _).mono ?_
  rintro e w1 ⟨v, rfl, hv, hE⟩
  have hr := hv.rep
  obtain ⟨p1, c1, rfl, q1, -, hat⟩ := hr.all_
  obtain ⟨b1, o1, rfl, z1, hat⟩ := hat l1
  have HA1 := hide (hat 0 l1)
  have X1 : Hid (Ext w w1) := by first | exact hE | exact ((Ext.refl w).alloc _).trans hE
  clear hat hr hv q1 hE
  go_wp2_with fail
  refine (C2.out _).mono ?_
  rintro e w2 ⟨v, rfl, hv, hE⟩
  have hr := hv.rep
  obtain ⟨p2, c2, rfl, q2, -, hat⟩ := hr.all_
  obtain ⟨b2, o2, rfl, z2, hat⟩ := hat l2
  have HA2 := hide (hat 0 l2)
  have B1 : Hid (BXc w2 w1.heap.size A1.n (.slice (some ⟨b1, o1, none⟩) A1.L c1)) := (hE.b.block _ (by simp)).trans (heap_alloc_new w1 _)
  have Y2 := hide (((Ext.refl w1).alloc (.cells #[.int .i64 A1.n, .slice (some ⟨b1, o1, none⟩) A1.L c1] 24)).trans hE)
  have X2 := hide (X1.out.trans Y2.out)
  clear hat hr hv q2 hE
  go_wp2_with fail
  refine (C3.out _).mono ?_
  rintro e w3 ⟨v, rfl, hv, hE⟩
  have hr := hv.rep
  obtain ⟨p3, c3, rfl, q3, -, hat⟩ := hr.all_
  obtain ⟨b3, o3, rfl, z3, hat⟩ := hat L3
  have HA3 := hide (hat 0 L3)
  have B2 : Hid (BXc w3 w2.heap.size A2.n (.slice (some ⟨b2, o2, none⟩) A2.L c2)) := (hE.b.block _ (by simp)).trans (heap_alloc_new w2 _)
  have Y3 := hide (((Ext.refl w2).alloc (.cells #[.int .i64 A2.n, .slice (some ⟨b2, o2, none⟩) A2.L c2] 24)).trans hE)
  have X3 := hide (X2.out.trans Y3.out)
  have B1 := hide (B1.out.ext Y3.out)
  clear hat hr hv q3 hE
  obtain ⟨d0, d1, dz⟩ := B1.out.facts
  obtain ⟨f0, f1, fz⟩ := B2.out.facts
  obtain ⟨s1, u1, r1, -, -, -⟩ := HA1.out
  obtain ⟨s2, u2, r2, -, -, -⟩ := HA2.out
  obtain ⟨s3, u3, r3, -, -, R3, at3⟩ := HA3.out
  replace r1 := r1 w3 (Y2.out.trans Y3.out)
  replace r2 := r2 w3 Y3.out
  rw [m3, Nat.add_zero] at r3
  have HR3 := hide r3
  have HZ3 := hide z3
  replace r3 := r3 w3 (Ext.refl w3)
  rw [m1, Nat.add_zero] at r1
  rw [m2, Nat.add_zero] at r2
  have z1 := Nat.lt_of_lt_of_le z1 (Y2.out.trans Y3.out).size
  have z2 := Nat.lt_of_lt_of_le z2 Y3.out.size
  have AT3 := hide at3
  clear at3 R3 HA1 HA2 HA3
  have hb1 : ((A1.L : Int) == 0) = false := beq_eq_false_iff_ne.2 (by omega)
  have hb2 : ((A2.L : Int) == 0) = false := beq_eq_false_iff_ne.2 (by omega)
  go_wp2_with fail
  obtain ⟨w4, hw4⟩ : ∃ w4, w3.alloc (.cells #[.int .i64 A3.n, .slice (some ⟨b3, o3, none⟩) 1 c3] 24) = w4 := ⟨_, rfl⟩
  have E34 : Ext w3 w4 := by rw [← hw4]; exact (Ext.refl w3).alloc _
  have X4 := hide (X3.out.trans E34)
  have g3 : BXc w4 w3.heap.size A3.n (.slice (some ⟨b3, o3, none⟩) 1 c3) := by rw [← hw4]; exact heap_alloc_new w3 _
  have B3 := hide g3
  have B1 := hide (B1.out.ext E34)
  have B2 := hide (B2.out.ext E34)
  replace r1 := (E34.cell (p := ⟨b1, o1, none⟩) z1).trans r1
  replace r2 := (E34.cell (p := ⟨b2, o2, none⟩) z2).trans r2
  replace r3 := (E34.cell (p := ⟨b3, o3, none⟩) z3).trans r3
  replace z1 := Nat.lt_of_lt_of_le z1 E34.size
  replace z2 := Nat.lt_of_lt_of_le z2 E34.size
  replace z3 := Nat.lt_of_lt_of_le z3 E34.size
  have Y4 := hide E34
  rw [hw4]
  clear hw4 d0 d1 dz f0 f1 fz E34 g3
  obtain ⟨d0, d1, dz⟩ := B1.out.facts
  obtain ⟨f0, f1, fz⟩ := B2.out.facts
  obtain ⟨g0, g1, gz⟩ := B3.out.facts
  have i1 : ∀ w : World, (Instr.index 30 (.agg #[.int .i64 0, .int .i64 1, .int .i64 2, .int .i64 5, .int .i64 15]) (.int .i64 4)).run Tryd.prog w = .ok (.int .i64 15) w := fun _ => by kernel_rfl
  have i2 : ∀ w : World, (Instr.index 30 (.agg #[.int .i64 0, .int .i64 1, .int .i64 3, .int .i64 13, .int .i64 75]) (.int .i64 4)).run Tryd.prog w = .ok (.int .i64 75) w := fun _ => by kernel_rfl
  refine wp_region_ext (by kernel_rfl) (by kernel_rfl) ?_
  repeat (go_big_quiet_step (fail))
  refine wpQuiet_nil ?_
  rintro w5 ⟨⟨_, E5⟩, rfl⟩
  have X5 := hide (X4.out.trans E5)
  have Y5 := hide (Y4.out.trans E5)
  have B3 := hide (B3.out.ext E5)
  clear E5 d0 d1 dz f0 f1 fz g0 g1 gz r1 r2 r3 z1 z2 i1 i2 B1 B2 X1 X2 X3 X4 Y2 Y3 Y4
  go_wp2_with fail
  refine (C5.out _).mono ?_
  rintro e w6 ⟨rfl, E6⟩
  have Y6 := hide (Y5.out.trans E6)
  have X6 := hide (X5.out.trans E6)
  have B3 := hide (B3.out.ext E6)
  clear E6
  go_wp2_with fail
  refine (C4.out _).mono ?_
  rintro e w7 ⟨v, rfl, hv, E7⟩
  have hr := hv.rep
  obtain ⟨p4, c4, rfl, q4, -, hat⟩ := hr.all_
  obtain ⟨b4, o4, rfl, z4, hat⟩ := hat L4
  obtain ⟨s4, u4, r4, -, -, -, at4⟩ := hat 0 L4
  replace r4 := r4 w7 (Ext.refl w7)
  obtain ⟨b5, o5, rfl, z5, at4⟩ := at4 (by rw [m4]; decide)
  have hm4 := (at4 0 (by rw [m4]; decide)).now (Ext.refl w7)
  rw [m4, Nat.add_zero] at r4
  rw [v4] at hm4
  have E67 := ((Ext.refl w6).alloc (.cells #[.int .i64 g.n, .int .i64 g.h0, .int .i64 g.h1, .int .i64 g.h2, .int .i64 g.h3, .int .i64 g.h4] 32)).trans E7
  have G6 : Hid (GrBox w7 w6.heap.size g) := (E7.b.block _ (by simp)).trans (heap_alloc_new w6 _)
  have Y7 := hide (Y6.out.trans E67)
  have X7 := hide (X6.out.trans E67)
  have B3 := hide (B3.out.ext E67)
  clear E67 E7 hv hr hat at4 q4
  obtain ⟨g0, g1, g2, g3, g4, g5, gz⟩ := G6.out.cells
  obtain ⟨y0, y1, y2, y3, y4, y5, y6, y7⟩ := hm4
  dsimp only
  dsimp only at y0 y1 y2 y3 y4 y5 y6 y7
  simp only [Nat.zero_mul, Nat.add_zero] at y0 y1 y2 y3 y4 y5 y6 y7
  obtain ⟨w8, hw8⟩ : ∃ w8, w7.alloc (.cells #[.int .i64 A4.n, .slice (some ⟨b4, o4, none⟩) A4.L c4] 24) = w8 := ⟨_, rfl⟩
  have E78 : Ext w7 w8 := by rw [← hw8]; exact (Ext.refl w7).alloc _
  have B4 : BXc w8 w7.heap.size A4.n (.slice (some ⟨b4, o4, none⟩) A4.L c4) := by rw [← hw8]; exact heap_alloc_new w7 _
  rw [l4] at B4
  go_upto_region 11 with fail
  rw [← l4, hw8, l4]
  clear hw8
  have Y8 := hide (Y7.out.trans E78)
  have X8 := hide (X7.out.trans E78)
  have B3 := hide (B3.out.ext E78)
  have G8 := hide (show GrBox w8 w6.heap.size g from (E78.b.block _ (lt_of_heap G6.out)).trans G6.out)
  replace r4 := (E78.cell (p := ⟨b4, o4, none⟩) z4).trans r4
  replace y0 := (E78.cell (p := ⟨b5, o5, none⟩) z5).trans y0
  replace y1 := (E78.cell (p := ⟨b5, o5 + 1, none⟩) z5).trans y1
  replace y2 := (E78.cell (p := ⟨b5, o5 + 2, none⟩) z5).trans y2
  replace y3 := (E78.cell (p := ⟨b5, o5 + 3, none⟩) z5).trans y3
  replace y4 := (E78.cell (p := ⟨b5, o5 + 4, none⟩) z5).trans y4
  replace y5 := (E78.cell (p := ⟨b5, o5 + 5, none⟩) z5).trans y5
  replace y6 := (E78.cell (p := ⟨b5, o5 + 6, none⟩) z5).trans y6
  replace y7 := (E78.cell (p := ⟨b5, o5 + 7, none⟩) z5).trans y7
  replace z4 := Nat.lt_of_lt_of_le z4 E78.size
  replace z5 := Nat.lt_of_lt_of_le z5 E78.size
  clear g0 g1 g2 g3 g4 g5 gz E78
  obtain ⟨g0, g1, g2, g3, g4, g5, gz⟩ := G8.out.cells
  obtain ⟨f0, f1, fz⟩ := BXc.facts B4
  have hq := neq_move g.n g.h0 g.h1 g.h2 g.h3 g.h4 0 0 g.n g.h0 g.h1 g.h2 g.h3 g.h4 0 0
  rw [show meq ⟨⟨⟨g.n, g.h0, g.h1, g.h2, g.h3, g.h4⟩, 0⟩, 0⟩ ⟨⟨⟨g.n, g.h0, g.h1, g.h2, g.h3, g.h4⟩, 0⟩, 0⟩ = true from meq_iff.2 rfl] at hq
  simp only [Bool.not_true] at hq
  refine wp_region_ext (by kernel_rfl) (by kernel_rfl) ?_
  repeat (go_big_quiet_step (fail))
  refine wpQuiet_nil ?_
  rintro w9 ⟨⟨_, E9⟩, rfl⟩
  have X9 := hide (X8.out.trans E9)
  have Y9 := hide (Y8.out.trans E9)
  have B3 := hide (B3.out.ext E9)
  clear E9 g0 g1 g2 g3 g4 g5 gz f0 f1 fz hq y0 y1 y2 y3 y4 y5 y6 y7 r4 z4 z5 G8 G6 X8 X7 X6 X5 Y8 Y7 Y6 Y5
  obtain ⟨b6, o6, rfl, z6, at6⟩ := AT3.out (by rw [m3]; decide)
  have HAT := hide at6
  have HZ6 := hide z6
  have r3 := HR3.out w9 Y9.out
  have z3 := Nat.lt_of_lt_of_le HZ3.out Y9.out.size
  obtain ⟨d0, d1, dz⟩ := B3.out.facts
  clear at6 z6
  go_wp2_with fail
  have HE : Hid (Ext w9 w9) := Ext.refl w9
  clear d0 d1 dz r3 z3
  go_loopw [15, 16, 17, 141] (fun _ _ _ x V => ∃ i : Nat, i ≤ 75 ∧ x = .int .i64 i ∧ Hid (Ext w9 V)) (fun _ _ _ x _ => 75 - (intOf x).toNat)
  case atStart => exact ⟨0, by omega, rfl, HE⟩
  case round =>
    clear HE
    obtain ⟨i, hi, rfl, HE⟩ := hrel
    by_cases hlt : i < 75
    · have hx := (HAT.out i (by rw [m3]; exact hlt)).now (Y9.out.trans HE.out)
      obtain ⟨kf, kt, kc⟩ := K3.out i hlt
      generalize A3.mv 0 i = mm at hx kf kt kc
      obtain ⟨⟨⟨n', a', b', c', d', e'⟩, ff⟩, tt⟩ := mm
      have kf : ff = 0 := kf
      have kt : tt = 0 := kt
      subst kf kt
      have HC := hide (fun W (hT : Tz W) => compose_any ⟨n', a', b', c', d', e'⟩ ⟨n', a', b', c', d', e'⟩ W hT)
      rw [show composeS ⟨n', a', b', c', d', e'⟩ ⟨n', a', b', c', d', e'⟩ = (⟨n', a', b', c', d', e'⟩, 0) from kc] at HC
      obtain ⟨x0, x1, x2, x3, x4, x5, x6, x7⟩ := hx
      dsimp only at x0 x1 x2 x3 x4 x5 x6 x7
      have hzb : b6 < wr.heap.size := Nat.lt_of_lt_of_le HZ6.out (Y9.out.trans HE.out).size
      have hl2 : (i : Int) < 75 := by omega
      clear kc
      go_upto_region 16 with fail
      clear x0 x1 x2 x3 x4 x5 x6 x7 hzb hl2
      have HM : Hid ((wr.alloc (.cells #[.int .i64 n', .int .i64 a', .int .i64 b', .int .i64 c', .int .i64 d', .int .i64 e', .int .i64 0, .int .i64 0] 38)).heap[wr.heap.size]? = some (.cells #[.int .i64 n', .int .i64 a', .int .i64 b', .int .i64 c', .int .i64 d', .int .i64 e', .int .i64 0, .int .i64 0] 38 (0, 0))) := heap_alloc_new wr _
      have HE := hide (HE.out.alloc (.cells #[.int .i64 n', .int .i64 a', .int .i64 b', .int .i64 c', .int .i64 d', .int .i64 e', .int .i64 0, .int .i64 0] 38))
      generalize wr.alloc (.cells #[.int .i64 n', .int .i64 a', .int .i64 b', .int .i64 c', .int .i64 d', .int .i64 e', .int .i64 0, .int .i64 0] 38) = V1 at HM HE ⊢
      generalize wr.heap.size = bm at HM ⊢
      have x0 : V1.cell? ⟨bm, 0, none⟩ = some (.int .i64 n') := cells_at HM.out 0
      have x1 : V1.cell? ⟨bm, 1, none⟩ = some (.int .i64 a') := cells_at HM.out 1
      have x2 : V1.cell? ⟨bm, 2, none⟩ = some (.int .i64 b') := cells_at HM.out 2
      have x3 : V1.cell? ⟨bm, 3, none⟩ = some (.int .i64 c') := cells_at HM.out 3
      have x4 : V1.cell? ⟨bm, 4, none⟩ = some (.int .i64 d') := cells_at HM.out 4
      have x5 : V1.cell? ⟨bm, 5, none⟩ = some (.int .i64 e') := cells_at HM.out 5
      have hmz := lt_of_heap HM.out
      go_wp2_with fail
      refine (HC.out V1 (HT.out.ext (X9.out.trans HE.out))).mono ?_
      rintro e V2 ⟨rfl, E2⟩
      have HM := hide ((E2.b.block _ (lt_of_heap HM.out)).trans HM.out)
      have HE := hide (HE.out.trans E2)
      clear E2 x0 x1 x2 x3 x4 x5 hmz
      go_upto_region 17 with fail
      have HX : Hid ((V2.alloc (.cells #[.int .i64 n', .int .i64 a', .int .i64 b', .int .i64 c', .int .i64 d', .int .i64 e'] 32)).heap[V2.heap.size]? = some (.cells #[.int .i64 n', .int .i64 a', .int .i64 b', .int .i64 c', .int .i64 d', .int .i64 e'] 32 (0, 0))) := heap_alloc_new V2 _
      have HM := hide ((Below.heap_alloc V2 (.cells #[.int .i64 n', .int .i64 a', .int .i64 b', .int .i64 c', .int .i64 d', .int .i64 e'] 32) _ (lt_of_heap HM.out)).trans HM.out)
      have HE := hide (HE.out.alloc (.cells #[.int .i64 n', .int .i64 a', .int .i64 b', .int .i64 c', .int .i64 d', .int .i64 e'] 32))
      change Code.wp _ _ _ _ (V2.alloc (.cells #[.int .i64 n', .int .i64 a', .int .i64 b', .int .i64 c', .int .i64 d', .int .i64 e'] 32))
      generalize V2.alloc (.cells #[.int .i64 n', .int .i64 a', .int .i64 b', .int .i64 c', .int .i64 d', .int .i64 e'] 32) = V3 at HM HE HX ⊢
      generalize V2.heap.size = bx at HX ⊢
      have x0 : V3.cell? ⟨bm, 0, none⟩ = some (.int .i64 n') := cells_at HM.out 0
      have x1 : V3.cell? ⟨bm, 1, none⟩ = some (.int .i64 a') := cells_at HM.out 1
      have x2 : V3.cell? ⟨bm, 2, none⟩ = some (.int .i64 b') := cells_at HM.out 2
      have x3 : V3.cell? ⟨bm, 3, none⟩ = some (.int .i64 c') := cells_at HM.out 3
      have x4 : V3.cell? ⟨bm, 4, none⟩ = some (.int .i64 d') := cells_at HM.out 4
      have x5 : V3.cell? ⟨bm, 5, none⟩ = some (.int .i64 e') := cells_at HM.out 5
      have x6 : V3.cell? ⟨bm, 6, none⟩ = some (.int .i64 0) := cells_at HM.out 6
      have x7 : V3.cell? ⟨bm, 7, none⟩ = some (.int .i64 0) := cells_at HM.out 7
      have hmz := lt_of_heap HM.out
      have u0 : V3.cell? ⟨bx, 0, none⟩ = some (.int .i64 n') := cells_at HX.out 0
      have u1 : V3.cell? ⟨bx, 1, none⟩ = some (.int .i64 a') := cells_at HX.out 1
      have u2 : V3.cell? ⟨bx, 2, none⟩ = some (.int .i64 b') := cells_at HX.out 2
      have u3 : V3.cell? ⟨bx, 3, none⟩ = some (.int .i64 c') := cells_at HX.out 3
      have u4 : V3.cell? ⟨bx, 4, none⟩ = some (.int .i64 d') := cells_at HX.out 4
      have u5 : V3.cell? ⟨bx, 5, none⟩ = some (.int .i64 e') := cells_at HX.out 5
      have hxz := lt_of_heap HX.out
      have hq := neq_graph n' a' b' c' d' e' n' a' b' c' d' e'
      rw [show geq ⟨n', a', b', c', d', e'⟩ ⟨n', a', b', c', d', e'⟩ = true from geq_iff.2 rfl] at hq
      simp only [Bool.not_true] at hq
      go_wp2_with fail
      go_roundw
      case rel => exact ⟨i + 1, by omega, by go_num, HE.out⟩
      case measure => simp [intOf]; omega
    · obtain rfl : i = 75 := by omega
      go_wp2_with fail
      refine (HA.out _).mono ?_
      rintro e V5 ⟨rfl, E5⟩
      go_wp2_with fail
      go_ret
      exact ⟨rfl, X9.out.trans (HE.out.trans E5)⟩
theorem counts_law (n : Int) (h0 : 0 ≤ n) (h1 : n < 256) (w : World) (hT : Tz w) : Calls Tryd.prog 3 #[.int .u8 n] w fun e w' => e = .returned (.bool true) ∧ Ext w w' := by
  have hc : 1 + n % 4 = 1 ∨ 1 + n % 4 = 2 ∨ 1 + n % 4 = 3 ∨ 1 + n % 4 = 4 := by omega
  rcases hc with h | h | h | h
  · exact counts_law1 n h0 h1 h w hT
  · exact counts_law2 n h0 h1 h w hT
  · exact counts_law3 n h0 h1 h w hT
  · exact counts_law4 n h0 h1 h w hT
end Go.Proofs.YtdlhnpogddpmpaaDoor
