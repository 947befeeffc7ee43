/-
  The reference's Task of a declaration.
  Conditions: as each theorem states.
-/
import Derived.Test.YthpccmmdkbjjhaaDoorTaskP
import Derived.Test.YthpccmmdkbjjhaaDoorInpR
import Derived.Deep.CutRange
namespace Go.Proofs.YthpccmmdkbjjhaaDoor
open Go.RowKit
attribute [local go_sem] Oper.semAt_some

theorem sizes_any2 {n a b : Int} : sizesS n [a, b] ≠ 0 ↔ (sizesS n [a] ≠ 0 ∨ sizesS n [b] ≠ 0) := by
  unfold sizesS
  simp only [List.any_cons, List.any_nil, Bool.or_false, Bool.or_eq_true]
  constructor
  · intro h
    split at h
    · rename_i h1
      rcases h1 with h1 | h1 | h1 | h1
      · exact .inl (by rw [if_pos (.inl h1)]; decide)
      · exact .inl (by rw [if_pos (.inr (.inl h1))]; decide)
      · exact .inl (by rw [if_pos (.inr (.inr h1))]; decide)
      · exact .inr (by rw [if_pos (.inr (.inr h1))]; decide)
    · exact absurd rfl h
  · intro h
    rcases h with h | h
    · split at h
      · rename_i h1
        rw [if_pos (by rcases h1 with h1 | h1 | h1
                       · exact .inl h1
                       · exact .inr (.inl h1)
                       · exact .inr (.inr (.inl h1)))]; decide
      · exact absurd rfl h
    · split at h
      · rename_i h1
        rw [if_pos (by rcases h1 with h1 | h1 | h1
                       · exact .inl h1
                       · exact .inr (.inl h1)
                       · exact .inr (.inr (.inr h1)))]; decide
      · exact absurd rfl h
set_option maxRecDepth 100000 in
set_option maxHeartbeats 4000000 in
theorem rtask_sizes (n : Int) (d : Dc) (s : ByteArray) (p1 : Option Addr) (c1 : Nat) (p2 : Option Addr) (c2 : Nat) (p3 : Option Addr) (c3 : Nat) (w : World) (h1 : sizesS n [d.ins, d.outs] ≠ 0) :
    Calls Tryd.prog 20 #[.int .i64 n, .agg (DCells s d p1 c1 p2 c2 p3 c3)] w (RetV2 (fun u w' => TkAt w' u .zero) 2 w) := by
  have HS1 := hide (fun W => rsizes_any n d.ins W)
  have HS2 := hide (fun W => rsizes_any n d.outs W)
  have H12 := hide (sizes_any2.1 h1)
  obtain ⟨w2, hw2⟩ : ∃ w2, (w.alloc (.cells (DCells s d p1 c1 p2 c2 p3 c3) 43)).alloc (.cells #[.int .i64 0, .int .i64 0, .int .i64 0, .slice none 0 0] 47) = w2 := ⟨_, rfl⟩
  have hE2 : Ext w w2 := by rw [← hw2]; exact ((Ext.refl w).alloc _).alloc _
  have hb0 : w2.heap[w.heap.size + 1]? = some (.cells #[.int .i64 0, .int .i64 0, .int .i64 0, .slice none 0 0] 47 (0, 0)) := by
    rw [← hw2]; have := heap_alloc_new (w.alloc (.cells (DCells s d p1 c1 p2 c2 p3 c3) 43)) (.cells #[.int .i64 0, .int .i64 0, .int .i64 0, .slice none 0 0] 47)
    rwa [World.size_alloc] at this
  have HT0 : Hid (TBox w2 (w.heap.size + 1) (.int .i64 0) (.int .i64 0) (.int .i64 0) (.slice none 0 0)) := hb0
  have hD0 : w2.heap[w.heap.size]? = some (.cells (DCells s d p1 c1 p2 c2 p3 c3) 43 (0, 0)) := by
    rw [← hw2]; exact (Below.heap_alloc _ _ _ (by simp)).trans (heap_alloc_new w _)
  have k1 : w2.cell? ⟨w.heap.size, 1, none⟩ = some (.int .i64 d.ins) := decl_cells hD0 1
  have k2 : w2.cell? ⟨w.heap.size, 2, none⟩ = some (.int .i64 d.outs) := decl_cells hD0 2
  have hsV : w.heap.size < w2.heap.size := lt_of_heap hD0
  have HW2 := hide hw2
  obtain ⟨t0, t1, t2, t3⟩ := HT0.out.cells
  obtain ⟨f0, f1, f2, f3⟩ := HT0.out.frozen
  clear hw2 hb0 h1 hD0
  by_cases hs : sizesS n [d.ins] = 0
  · have HV := hide (sizes_val (H12.out.resolve_left (fun h => h hs)))
    rw [hs] at HS1
    rw [HV.out] at HS2
    clear hs
    go_enter Tryd.func20, Tryd.ntmps20
    go_wp2_with fail
    rw [HW2.out]
    go_wp2_with fail
    refine (HS1.out _).mono ?_
    rintro e' w4 ⟨rfl, rfl⟩
    go_wp2_with fail
    refine (HS2.out _).mono ?_
    rintro e' w4 ⟨rfl, rfl⟩
    go_wp2_with fail
    exact leave_task rfl rfl rfl rfl (HT0.out.store _ _ _ _) ⟨_, rfl, TkAt.zero _, ext_store4 hE2 (by omega) _ _ _ _⟩
  · have HV := hide (sizes_val hs)
    rw [HV.out] at HS1
    clear hs
    go_enter Tryd.func20, Tryd.ntmps20
    go_wp2_with fail
    rw [HW2.out]
    go_wp2_with fail
    refine (HS1.out _).mono ?_
    rintro e' w4 ⟨rfl, rfl⟩
    go_wp2_with fail
    exact leave_task rfl rfl rfl rfl (HT0.out.store _ _ _ _) ⟨_, rfl, TkAt.zero _, ext_store4 hE2 (by omega) _ _ _ _⟩
set_option maxRecDepth 100000 in
set_option maxHeartbeats 8000000 in
theorem rtask_main (N Mi Mo : Nat) (wh al ca : Ex) (s : ByteArray) (p1 : Option Addr) (c1 : Nat) (p2 : Option Addr) (c2 : Nat) (p3 : Option Addr) (c3 : Nat) (w : World) (h1 : 1 ≤ N) (h5 : N ≤ 5) (ha : 1 ≤ Mi) (ha8 : Mi ≤ 8) (hb : 1 ≤ Mo) (hb8 : Mo ≤ 8)
    (hf1 : Mi ^ N ≤ 1024) (hf2 : Mo ^ N ≤ 1024) (_hT : Tab w) (hn1 : wh.nodes ≤ 100000) (hn2 : al.nodes ≤ 100000) (hn3 : ca.nodes ≤ 100000)
    (hx1 : ExAt w (.agg #[.int .i64 wh.op, .int .i64 wh.num, .slice p1 wh.args.length c1]) wh) (hx2 : ExAt w (.agg #[.int .i64 al.op, .int .i64 al.num, .slice p2 al.args.length c2]) al) (hx3 : ExAt w (.agg #[.int .i64 ca.op, .int .i64 ca.num, .slice p3 ca.args.length c3]) ca) :
    Calls Tryd.prog 20 #[.int .i64 N, .agg (DCells s ⟨Mi, Mo, wh, al, ca⟩ p1 c1 p2 c2 p3 c3)] w (RetV2 (fun u w' => TkAt w' u (taskS N ⟨Mi, Mo, wh, al, ca⟩).1) (taskS N ⟨Mi, Mo, wh, al, ca⟩).2 w) := by
  obtain ⟨r1, r2, r3, r4⟩ := taskS_cases (wh := wh) (al := al) (ca := ca) h1 h5 ha ha8 hb hb8
  have R1 := hide r1
  have R2 := hide r2
  have R3 := hide r3
  have R4 := hide r4
  clear r1 r2 r3 r4
  have HS1 := hide (fun W => rsizes_any N Mi W)
  have HS2 := hide (fun W => rsizes_any N Mo W)
  rw [sizes_ok (by omega) (by omega) (by omega) (by omega)] at HS1 HS2
  have HC1 := hide (fun W (hW : Ext w W) => rgiven_any wh 1 _ W (hx1.ext hW) hn1 (by omega))
  have HC2 := hide (fun W (hW : Ext w W) => rcond_any al 3 _ W (hx2.ext hW) hn2 (by omega))
  have HC3 := hide (fun W (hW : Ext w W) => rgiven_any ca 3 _ W (hx3.ext hW) hn3 (by omega))
  have HINP : Hid (givenS wh 1 = 0 → ∀ W, Ext w W → Calls Tryd.prog 14 #[.int .i64 N, .int .i64 Mi, .agg #[.int .i64 wh.op, .int .i64 wh.num, .slice p1 wh.args.length c1]] W (RetV2 (fun u w' => Coll 38 3 icells 1 w' W.heap.size u (inL N Mi wh)) 0 W)) := fun hg W hW => by
    have h := rinputs_any N Mi wh _ W (hx1.ext hW) hn1 (fun _ _ _ _ => by rw [Int.toNat_natCast, Int.toNat_natCast]; exact hf1)
    have e : inpS (N : Int) (Mi : Int) wh = (inL N Mi wh, 0) := by
      unfold inpS
      rw [if_neg (by rw [sizes_ok (by omega) (by omega) (by omega) (by omega)]; decide), if_neg (by rw [hg]; decide), Int.toNat_natCast, Int.toNat_natCast]; rfl
    rw [e] at h
    exact h
  have HOUT : Hid (condS al 3 = 0 → ∀ W (l : List Int) u, Ext w W → l.length = N → l.any outBad = false → Row icells 1 W u l → Calls Tryd.prog 17 #[.int .i64 N, .int .i64 Mo, u, .agg #[.int .i64 al.op, .int .i64 al.num, .slice p2 al.args.length c2]] W (RetV2 (fun u w' => Coll 38 3 icells 1 w' W.heap.size u ((vecs Mo N).filter (holdOut N l al))) 0 W)) := fun hg W l u hW hll hbad hr => by
    have h := routputs_any N Mo l al u _ W hr (hx2.ext hW) hn2 (fun _ _ _ _ => by rw [Int.toNat_natCast, Int.toNat_natCast]; exact hf2)
    have e : outS (N : Int) (Mo : Int) l al = ((vecs Mo N).filter (holdOut N l al), 0) := by
      unfold outS
      rw [if_neg (by rw [sizes_ok (by omega) (by omega) (by omega) (by omega)]; decide), if_neg (by rw [hll]; simp), if_neg (by rw [hbad]; decide), if_neg, Int.toNat_natCast, Int.toNat_natCast]
      unfold givenS
      split <;> simp [hg]
    rw [e] at h
    exact h
  have HABS := hide (fun W (hW : Ext w W) => rabsent_any ca _ W (hx3.ext hW))
  have HTRU := hide (fun W (hW : Ext w W) (li l : List Int) ui u (hi : Row icells 1 W ui li) (ho : Row icells 1 W u l) hs => rholds_any ⟨N, li, l, gz⟩ hs rfl ca _ ui u W (hx3.ext hW) hn3 hi ho)
  have HLA := hide (fun k (hk : k < (inL N Mi wh).length) => inL_at ha ha8 hk)
  have HLL : Hid ((inL N Mi wh).length ≤ 1024) := by
    refine Nat.le_trans (List.length_filter_le _ _) ?_
    rw [vecs_len]; exact hf1
  have HBN := hide (And.intro h1 (And.intro h5 (And.intro hb (And.intro hb8 hf2))))
  obtain ⟨w2, hw2⟩ : ∃ w2, (w.alloc (.cells (DCells s ⟨Mi, Mo, wh, al, ca⟩ p1 c1 p2 c2 p3 c3) 43)).alloc (.cells #[.int .i64 0, .int .i64 0, .int .i64 0, .slice none 0 0] 47) = w2 := ⟨_, rfl⟩
  have hE2 : Ext w w2 := by rw [← hw2]; exact ((Ext.refl w).alloc _).alloc _
  have hb0 : TBox w2 (w.heap.size + 1) (.int .i64 0) (.int .i64 0) (.int .i64 0) (.slice none 0 0) := by
    rw [← hw2]; have := heap_alloc_new (w.alloc (.cells (DCells s ⟨Mi, Mo, wh, al, ca⟩ p1 c1 p2 c2 p3 c3) 43)) (.cells #[.int .i64 0, .int .i64 0, .int .i64 0, .slice none 0 0] 47)
    rwa [World.size_alloc] at this
  have HD0 : Hid (w2.heap[w.heap.size]? = some (.cells (DCells s ⟨Mi, Mo, wh, al, ca⟩ p1 c1 p2 c2 p3 c3) 43 (0, 0))) := by
    show _ = _
    rw [← hw2]; exact (Below.heap_alloc _ _ _ (by simp)).trans (heap_alloc_new w _)
  have HW2 := hide hw2
  have HB0 := hide hb0
  have HE2 := hide hE2
  have hgz : w.heap.size + 1 < w2.heap.size := lt_of_heap hb0
  have HWZ := hide hgz
  clear hw2 hb0 hE2 hx1 hx2 hx3 _hT hn1 hn2 hn3 hf1 hf2
  generalize taskS N ⟨Mi, Mo, wh, al, ca⟩ = res at R1 R2 R3 R4 ⊢
  have E0 : Hid (errD ⟨Mi, Mo, wh, al, ca⟩ 0 = givenS wh 1) := rfl
  have E1 : Hid (errD ⟨Mi, Mo, wh, al, ca⟩ 1 = condS al 3) := rfl
  have E2 : Hid (errD ⟨Mi, Mo, wh, al, ca⟩ 2 = givenS ca 3) := rfl
  generalize errD ⟨Mi, Mo, wh, al, ca⟩ = E at R1 R2 R3 R4 E0 E1 E2
  have kk : ∀ j, w2.cell? ⟨w.heap.size, j, none⟩ = (DCells s ⟨Mi, Mo, wh, al, ca⟩ p1 c1 p2 c2 p3 c3)[j]? := decl_cells (((Ext.refl w2).b.block _ (lt_of_heap HD0.out)).trans HD0.out)
  have k1 : w2.cell? ⟨w.heap.size, 1, none⟩ = some (.int .i64 Mi) := kk 1
  have k2 : w2.cell? ⟨w.heap.size, 2, none⟩ = some (.int .i64 Mo) := kk 2
  have k3 : w2.cell? ⟨w.heap.size, 3, none⟩ = some (.int .i64 wh.op) := kk 3
  have k4 : w2.cell? ⟨w.heap.size, 4, none⟩ = some (.int .i64 wh.num) := kk 4
  have k5 : w2.cell? ⟨w.heap.size, 5, none⟩ = some (.slice p1 wh.args.length c1) := kk 5
  have hsV : w.heap.size < w2.heap.size := by have := (Ext.refl w2).size; have := HWZ.out; omega
  clear kk
  go_enter Tryd.func20, Tryd.ntmps20
  go_wp2_with fail
  rw [HW2.out]
  go_wp2_with fail
  refine (HS1.out _).mono ?_
  rintro e' w4 ⟨rfl, h4⟩
  replace h4 := h4.symm
  subst h4
  go_wp2_with fail
  refine (HS2.out _).mono ?_
  rintro e' w4 ⟨rfl, h4⟩
  replace h4 := h4.symm
  subst h4
  go_wp2_with fail
  refine (HC1.out _ HE2.out).mono ?_
  rintro e' w4 ⟨rfl, hE4⟩
  have HE4 := hide hE4
  clear hE4 k1 k2 k3 k4 k5 hsV
  rw [← show E 0 = givenS wh 1 from E0.out]
  by_cases h0 : E 0 = 0
  case neg =>
    have hd : (E 0 != 0) = true := by simp [h0]
    have HR := hide (R1.out 0 (by decide) (fun j hj => by omega) h0)
    clear h0
    have HTB_ := hide (HB0.out.ext HE4.out)
    obtain ⟨t0, t1, t2, t3⟩ := HTB_.out.cells
    obtain ⟨f0, f1, f2, f3⟩ := HTB_.out.frozen
    go_wp2_with fail
    refine leave_task rfl rfl rfl rfl (HTB_.out.store _ _ _ _) ?_
    rw [HR.out]
    exact ⟨_, rfl, TkAt.zero _, ext_store4 (HE2.out.trans HE4.out) (by omega) _ _ _ _⟩
  case pos =>
  have HG0 := hide h0
  have hd : (E 0 != 0) = false := by simp [h0]
  clear h0
  have kk : ∀ j, w4.cell? ⟨w.heap.size, j, none⟩ = (DCells s ⟨Mi, Mo, wh, al, ca⟩ p1 c1 p2 c2 p3 c3)[j]? := decl_cells ((HE4.out.b.block _ (lt_of_heap HD0.out)).trans HD0.out)
  have k6 : w4.cell? ⟨w.heap.size, 6, none⟩ = some (.int .i64 al.op) := kk 6
  have k7 : w4.cell? ⟨w.heap.size, 7, none⟩ = some (.int .i64 al.num) := kk 7
  have k8 : w4.cell? ⟨w.heap.size, 8, none⟩ = some (.slice p2 al.args.length c2) := kk 8
  have hsV : w.heap.size < w4.heap.size := by have := HE4.out.size; have := HWZ.out; omega
  clear kk
  go_wp2_with fail
  refine (HC2.out _ (HE2.out.trans HE4.out)).mono ?_
  rintro e' w5 ⟨rfl, hE5⟩
  have HE5 := hide (HE4.out.trans hE5)
  clear hE5 k6 k7 k8 hsV hd
  rw [← show E 1 = condS al 3 from E1.out]
  by_cases h0 : E 1 = 0
  case neg =>
    have hd : (E 1 != 0) = true := by simp [h0]
    have HR := hide (R1.out 1 (by decide) (fun j hj => by
      obtain rfl : j = 0 := by omega
      exact HG0.out) h0)
    clear h0
    have HTB_ := hide (HB0.out.ext HE5.out)
    obtain ⟨t0, t1, t2, t3⟩ := HTB_.out.cells
    obtain ⟨f0, f1, f2, f3⟩ := HTB_.out.frozen
    go_wp2_with fail
    refine leave_task rfl rfl rfl rfl (HTB_.out.store _ _ _ _) ?_
    rw [HR.out]
    exact ⟨_, rfl, TkAt.zero _, ext_store4 (HE2.out.trans HE5.out) (by omega) _ _ _ _⟩
  case pos =>
  have HG1 := hide h0
  have hd : (E 1 != 0) = false := by simp [h0]
  clear h0
  have kk : ∀ j, w5.cell? ⟨w.heap.size, j, none⟩ = (DCells s ⟨Mi, Mo, wh, al, ca⟩ p1 c1 p2 c2 p3 c3)[j]? := decl_cells ((HE5.out.b.block _ (lt_of_heap HD0.out)).trans HD0.out)
  have k9 : w5.cell? ⟨w.heap.size, 9, none⟩ = some (.int .i64 ca.op) := kk 9
  have k10 : w5.cell? ⟨w.heap.size, 10, none⟩ = some (.int .i64 ca.num) := kk 10
  have k11 : w5.cell? ⟨w.heap.size, 11, none⟩ = some (.slice p3 ca.args.length c3) := kk 11
  have hsV : w.heap.size < w5.heap.size := by have := HE5.out.size; have := HWZ.out; omega
  clear kk
  go_wp2_with fail
  refine (HC3.out _ (HE2.out.trans HE5.out)).mono ?_
  rintro e' w55 ⟨rfl, hE55⟩
  have HE55 := hide (HE5.out.trans hE55)
  clear hE55 k9 k10 k11 hsV hd
  rw [← show E 2 = givenS ca 3 from E2.out]
  by_cases h0 : E 2 = 0
  case neg =>
    have hd : (E 2 != 0) = true := by simp [h0]
    have HR := hide (R1.out 2 (by decide) (fun j hj => by
      obtain rfl | rfl : j = 0 ∨ j = 1 := by omega
      · exact HG0.out
      · exact HG1.out) h0)
    clear h0
    have HTB_ := hide (HB0.out.ext HE55.out)
    obtain ⟨t0, t1, t2, t3⟩ := HTB_.out.cells
    obtain ⟨f0, f1, f2, f3⟩ := HTB_.out.frozen
    go_wp2_with fail
    refine leave_task rfl rfl rfl rfl (HTB_.out.store _ _ _ _) ?_
    rw [HR.out]
    exact ⟨_, rfl, TkAt.zero _, ext_store4 (HE2.out.trans HE55.out) (by omega) _ _ _ _⟩
  case pos =>
  have hd : (E 2 != 0) = false := by simp [h0]
  have HJ : Hid (∀ j, j < 3 → E j = 0) := fun j hj => by
    obtain rfl | rfl | rfl : j = 0 ∨ j = 1 ∨ j = 2 := by omega
    · exact HG0.out
    · exact HG1.out
    · exact h0
  clear h0
  have hg0 : givenS wh 1 = 0 := by rw [← E0.out]; exact HJ.out 0 (by decide)
  have hg1 : condS al 3 = 0 := by rw [← E1.out]; exact HJ.out 1 (by decide)
  have HINP := hide (HINP.out hg0)
  have HOUT := hide (HOUT.out hg1)
  have R2 := hide (R2.out HJ.out)
  have R3 := hide (R3.out HJ.out)
  have R4 := hide (R4.out HJ.out)
  clear hg0 hg1 HJ R1 E0 E1 E2 HC1 HC2 HC3 HG0 HG1 HE4 HE5
  have kk : ∀ j, w55.cell? ⟨w.heap.size, j, none⟩ = (DCells s ⟨Mi, Mo, wh, al, ca⟩ p1 c1 p2 c2 p3 c3)[j]? := decl_cells ((HE55.out.b.block _ (lt_of_heap HD0.out)).trans HD0.out)
  have k1 : w55.cell? ⟨w.heap.size, 1, none⟩ = some (.int .i64 Mi) := kk 1
  have k3 : w55.cell? ⟨w.heap.size, 3, none⟩ = some (.int .i64 wh.op) := kk 3
  have k4 : w55.cell? ⟨w.heap.size, 4, none⟩ = some (.int .i64 wh.num) := kk 4
  have k5 : w55.cell? ⟨w.heap.size, 5, none⟩ = some (.slice p1 wh.args.length c1) := kk 5
  have hsV : w.heap.size < w55.heap.size := by have := HE55.out.size; have := HWZ.out; omega
  clear kk
  go_wp2_with fail
  refine (HINP.out w55 (HE2.out.trans HE55.out)).mono ?_
  rintro e' w6 ⟨u, rfl, hu, hE6⟩
  obtain ⟨q, k, rfl⟩ := hu.sl
  have HU := hide hu
  have HE26 := hide (HE55.out.trans hE6)
  have HT6 := hide (HB0.out.ext HE26.out)
  clear hu k1 k3 k4 k5 hE6 HE55 hsV hd
  generalize hLe : inL N Mi wh = L at R2 R3 R4 HLA HLL HU ⊢
  clear hLe HINP
  have hL0 : L = [] ∨ L ≠ [] := by by_cases h : L = [] <;> simp [h]
  rcases hL0 with hL0 | hL0
  · have HR := hide (R2.out hL0)
    have hd : ((L.length : Int) == 0) = true := by rw [hL0]; rfl
    clear hL0
    have HTB_ := hide (HB0.out.ext HE26.out)
    obtain ⟨t0, t1, t2, t3⟩ := HTB_.out.cells
    obtain ⟨f0, f1, f2, f3⟩ := HTB_.out.frozen
    go_wp2_with fail
    refine leave_task rfl rfl rfl rfl (HTB_.out.store _ _ _ _) ?_
    rw [HR.out]
    exact ⟨_, rfl, TkAt.zero _, ext_store4 (HE2.out.trans HE26.out) (by omega) _ _ _ _⟩
  have HR4 := hide (R4.out hL0)
  have hLL := HLL.out
  have hLp : 0 < L.length := List.length_pos_iff.2 hL0
  have hd : ((L.length : Int) == 0) = false := by rw [beq_eq_false_iff_ne]; omega
  clear hL0 R2 R4
  have kk : ∀ j, w6.cell? ⟨w.heap.size, j, none⟩ = (DCells s ⟨Mi, Mo, wh, al, ca⟩ p1 c1 p2 c2 p3 c3)[j]? := decl_cells ((HE26.out.b.block _ (lt_of_heap HD0.out)).trans HD0.out)
  have k1 : w6.cell? ⟨w.heap.size, 1, none⟩ = some (.int .i64 Mi) := kk 1
  have k2 : w6.cell? ⟨w.heap.size, 2, none⟩ = some (.int .i64 Mo) := kk 2
  have hsV : w.heap.size < w6.heap.size := by have := HE26.out.size; have := HWZ.out; omega
  clear kk
  go_wp2_with fail
  obtain ⟨w7, hw7⟩ : ∃ w7, w6.alloc (.cells #[.int .i64 N, .int .i64 Mi, .int .i64 Mo, .slice none 0 0] 47) = w7 := ⟨_, rfl⟩
  have HE7 : Hid (Ext w6 w7) := by show Ext _ _; rw [← hw7]; exact (Ext.refl _).alloc _
  have HG7 : Hid (TBox w7 w6.heap.size (.int .i64 N) (.int .i64 Mi) (.int .i64 Mo) (.slice none 0 0)) := by show TBox _ _ _ _ _ _; rw [← hw7]; exact heap_alloc_new w6 _
  rw [hw7]
  clear hw7 k1 k2 hsV hd
  obtain ⟨g12, hg12⟩ : ∃ g, w6.heap.size = g := ⟨_, rfl⟩
  have HG12 := hide hg12
  rw [hg12] at HG7 ⊢
  clear hg12
  go_loopw [14] (fun x V => ∃ i : Nat, i ≤ L.length ∧ x = .int .i64 i ∧ Hid (Ext w6 V ∧ (∃ u vs, TBox V g12 (.int .i64 N) (.int .i64 Mi) (.int .i64 Mo) u ∧ Own tenc 3 V (g12 + 1) 90 u vs ∧ vs.length = i ∧ ∀ k t, vs[k]? = some t → CaseAt V t (caseS N Mo ⟨Mi, Mo, wh, al, ca⟩ (L.getD k []))) ∧
      ∀ k, k < i → caseBad ⟨Mi, Mo, wh, al, ca⟩ (caseS N Mo ⟨Mi, Mo, wh, al, ca⟩ (L.getD k [])) = false)) (fun x _ => L.length - (intOf x).toNat)
  case atStart => exact ⟨0, by omega, rfl, HE7.out, ⟨_, [], HG7.out, Own.nil _ _ _ (fun _ => rfl), rfl, fun k t h => by simp at h⟩, fun k hk => by omega⟩
  case round =>
    clear HE7 HG7
    obtain ⟨i, hi, rfl, HJ⟩ := hrel
    by_cases hlt : i < L.length
    · obtain ⟨wv, rfl⟩ : ∃ wv : World, wv = wr := ⟨_, rfl⟩
      obtain ⟨hE6V, ⟨u, vs, hTB, hown, hvl, hcs⟩, hgood⟩ := HJ.out
      have HE6V := hide hE6V
      have HTK := hide hTB
      have HOW := hide hown
      have HVL := hide hvl
      have HCS := hide hcs
      have HGOOD := hide hgood
      obtain ⟨gL, cL, xv, hqe, hgL, hcl, hrow⟩ := (HU.out.ext hE6V).at_ hlt
      injection hqe with hq1 _ hq3
      subst hq1 hq3
      obtain ⟨hxl, hxb⟩ := HLA.out i hlt
      have HBAD := hide (R3.out i hlt)
      generalize hx : L.getD i [] = x at hrow hxl hxb HBAD
      obtain ⟨qx, cx, rfl, -⟩ := hrow.1.int_all
      have HXR := hide hrow
      have HE2V := hide (HE26.out.trans hE6V)
      have HEW := hide (HE2.out.trans HE2V.out)
      have HTB := hide (HB0.out.ext HE2V.out)
      have HXL := hide hxl
      have HXB := hide hxb
      have hg2 : w.heap.size + 1 < g12 := by have := HE26.out.size; have := HG12.out; omega
      have hg12V := lt_of_heap hTB
      have hgLV : gL < wv.heap.size := hgL
      have kk : ∀ j, wv.cell? ⟨w.heap.size, j, none⟩ = (DCells s ⟨Mi, Mo, wh, al, ca⟩ p1 c1 p2 c2 p3 c3)[j]? := decl_cells ((HE2V.out.b.block _ (lt_of_heap HD0.out)).trans HD0.out)
      have k2 : wv.cell? ⟨w.heap.size, 2, none⟩ = some (.int .i64 Mo) := kk 2
      have k6 : wv.cell? ⟨w.heap.size, 6, none⟩ = some (.int .i64 al.op) := kk 6
      have k7 : wv.cell? ⟨w.heap.size, 7, none⟩ = some (.int .i64 al.num) := kk 7
      have k8 : wv.cell? ⟨w.heap.size, 8, none⟩ = some (.slice p2 al.args.length c2) := kk 8
      have hsV : w.heap.size < wv.heap.size := by omega
      have HCC : Hid (∀ C, caseS N Mo ⟨Mi, Mo, wh, al, ca⟩ x = C → C.inp = x ∧ C.out = (vecs Mo N).filter (holdOut N x al) ∧ (absentE ca = true → C.calm = []) ∧ (absentE ca = false → C.calm = ((vecs Mo N).filter (holdOut N x al)).filter (holdOut N x ca))) := fun C hC => by
        rw [← hC]
        exact ⟨rfl, rfl, fun h => by unfold caseS; dsimp only; rw [if_pos h], fun h => by unfold caseS; dsimp only; rw [if_neg (by rw [h]; decide)]⟩
      have HOK : Hid (∀ j, j < ((vecs Mo N).filter (holdOut N x al)).length → Sc.ok ⟨N, x, ((vecs Mo N).filter (holdOut N x al)).getD j [], gz⟩ ∧ (((vecs Mo N).filter (holdOut N x al)).getD j []).length = N) := fun j hj => by
        have hm1 : ((vecs Mo N).filter (holdOut N x al)).getD j [] ∈ vecs Mo N := by
          rw [List.getD_eq_getElem?_getD, List.getElem?_eq_getElem hj]
          exact (List.mem_filter.1 (List.getElem_mem hj)).1
        have hz : ∀ z, z ∈ vecs Mo N → ∃ t, dig Mo N t = z := fun z hz => by
          rw [vecs_map] at hz
          obtain ⟨t, _, h⟩ := List.mem_map.1 hz
          exact ⟨t, h⟩
        obtain ⟨t, ht⟩ := hz _ hm1
        rw [← ht]
        exact ⟨dig_ok2 HBN.out.1 HBN.out.2.1 HBN.out.2.2.1 HBN.out.2.2.2.1 HXB.out t, dig_len _ _ _⟩
      have HOL : Hid (((vecs Mo N).filter (holdOut N x al)).length ≤ 1024) := by
        refine Nat.le_trans (List.length_filter_le _ _) ?_
        rw [vecs_len]; exact HBN.out.2.2.2.2
      have HOUTI := hide (fun W u (hW : Ext w W) (hr : Row icells 1 W u x) => HOUT.out W x u hW HXL.out HXB.out hr)
      have HHX := hide hx
      clear hE6V hTB hown hvl hcs hgood hrow hxl hxb kk hx HJ hgL
      generalize hCC : caseS N Mo ⟨Mi, Mo, wh, al, ca⟩ x = CC at HBAD
      obtain ⟨hci, hco, hca1, hca2⟩ := HCC.out CC hCC
      have HCC : Hid (caseS N Mo ⟨Mi, Mo, wh, al, ca⟩ (L.getD i []) = CC) := by show _ = _; rw [HHX.out]; exact hCC
      have HCI := hide hci
      have HCO := hide hco
      have HCA := hide hca1
      have HCA2 := hide hca2
      clear hCC hci hco hca1 hca2 HHX
      generalize (vecs Mo N).filter (holdOut N x al) = O at HCO HCA2 HOK HOL HOUTI
      go_upto_region 26 with fail
      obtain ⟨w8, hw8⟩ : ∃ w8, wv.alloc (.cells #[.slice qx x.length cx, .slice none 0 0, .slice none 0 0] 90) = w8 := ⟨_, rfl⟩
      have hE8 : Ext wv w8 := by rw [← hw8]; exact (Ext.refl _).alloc _
      have hC8 : CBox w8 wv.heap.size (.slice qx x.length cx) (.slice none 0 0) (.slice none 0 0) := by rw [← hw8]; exact heap_alloc_new wv _
      rw [hw8]
      obtain ⟨g15, hg15⟩ : ∃ g, wv.heap.size = g := ⟨_, rfl⟩
      have HG15 := hide hg15
      rw [hg15] at hC8 ⊢
      have HCL := hide hcl
      have HGL := hide hgLV
      clear hw8 hg15 k2 k6 k7 k8 hcl hsV
      refine wp_region_heldAll (fun V => Ext wv V) (by kernel_rfl) ?_
      intro Y3 hY3
      have hS3 : Ext wv Y3 := by rw [hY3]; exact hE8.drew
      have hE83 : Ext w8 Y3 := by rw [hY3]; exact (Ext.refl _).drew
      clear hY3
      refine wpAnyT_take (i := 0) (.int .i64 N) rfl (by kernel_rfl) (by kernel_rfl) (by kernel_rfl) (by simp [Region.wanted]) (fun V hV => by
        go_simp) hS3 ?_
      try simp only [Act.put, List.getElem_toArray, List.getElem_cons_zero, List.setIfInBounds_toArray, List.set_cons_zero, List.set_cons_succ]
      refine wpAnyT_take (i := 1) (.pointer (some ⟨w.heap.size, 2, none⟩)) rfl (by kernel_rfl) (by kernel_rfl) (by kernel_rfl) (by simp [Region.wanted]) (fun V hV => by
        have kk := decl_cells (((HE2V.out.trans hV).b.block _ (lt_of_heap HD0.out)).trans HD0.out)
        have hsV : w.heap.size < V.heap.size := lt_of_heap (((HE2V.out.trans hV).b.block _ (lt_of_heap HD0.out)).trans HD0.out)
        clear kk
        go_simp) hS3 ?_
      try simp only [Act.put, List.getElem_toArray, List.setIfInBounds_toArray]
      refine wpAnyT_take (i := 2) (.int .i64 Mo) rfl (by kernel_rfl) (by kernel_rfl) (by kernel_rfl) (by simp [Region.wanted]) (fun V hV => by
        have kk := decl_cells (((HE2V.out.trans hV).b.block _ (lt_of_heap HD0.out)).trans HD0.out)
        have k2 : V.cell? ⟨w.heap.size, 2, none⟩ = some (.int .i64 Mo) := kk 2
        clear kk
        go_simp) hS3 ?_
      try simp only [Act.put, List.getElem_toArray]
      refine wpAnyT_take (i := 3) (.slice (some ⟨gL, 0, none⟩) L.length k) rfl (by kernel_rfl) (by kernel_rfl) (by kernel_rfl) (by simp [Region.wanted]) (fun V hV => by
        go_simp) hS3 ?_
      try simp only [Act.put, List.getElem_toArray]
      refine wpAnyT_take (i := 4) (.int .i64 i) rfl (by kernel_rfl) (by kernel_rfl) (by kernel_rfl) (by simp [Region.wanted]) (fun V hV => by
        go_simp) hS3 ?_
      try simp only [Act.put, List.getElem_toArray]
      refine wpAnyT_take (i := 5) (.pointer (some ⟨gL, i, none⟩)) rfl (by kernel_rfl) (by kernel_rfl) (by kernel_rfl) (by simp [Region.wanted]) (fun V hV => by
        go_simp) hS3 ?_
      try simp only [Act.put, List.getElem_toArray]
      refine wpAnyT_take (i := 6) (.slice qx x.length cx) rfl (by kernel_rfl) (by kernel_rfl) (by kernel_rfl) (by simp [Region.wanted]) (fun V hV => by
        have hcl := (hV.cell (p := ⟨gL, i, none⟩) HGL.out).trans HCL.out
        have hgl := Nat.lt_of_lt_of_le HGL.out hV.size
        go_simp) hS3 ?_
      try simp only [Act.put, List.getElem_toArray]
      refine wpAnyT_take (i := 7) (.pointer (some ⟨w.heap.size, 6, none⟩)) rfl (by kernel_rfl) (by kernel_rfl) (by kernel_rfl) (by simp [Region.wanted]) (fun V hV => by
        have kk := decl_cells (((HE2V.out.trans hV).b.block _ (lt_of_heap HD0.out)).trans HD0.out)
        have hsV : w.heap.size < V.heap.size := lt_of_heap (((HE2V.out.trans hV).b.block _ (lt_of_heap HD0.out)).trans HD0.out)
        clear kk
        go_simp) hS3 ?_
      try simp only [Act.put, List.getElem_toArray]
      refine wpAnyT_take (i := 8) (.agg #[.int .i64 al.op, .int .i64 al.num, .slice p2 al.args.length c2]) rfl (by kernel_rfl) (by kernel_rfl) (by kernel_rfl) (by simp [Region.wanted]) (fun V hV => by
        have kk := decl_cells (((HE2V.out.trans hV).b.block _ (lt_of_heap HD0.out)).trans HD0.out)
        have k6 : V.cell? ⟨w.heap.size, 6, none⟩ = some (.int .i64 al.op) := kk 6
        have k7 : V.cell? ⟨w.heap.size, 7, none⟩ = some (.int .i64 al.num) := kk 7
        have k8 : V.cell? ⟨w.heap.size, 8, none⟩ = some (.slice p2 al.args.length c2) := kk 8
        clear kk
        go_simp) hS3 ?_
      try simp only [Act.put, List.getElem_toArray]
      refine wpAnyT_one (i := 9) rfl (by kernel_rfl) (fun KK hKK => ?_)
      go_wp2_with fail
      refine (HOUTI.out Y3 _ (HEW.out.trans hS3) (HXR.out.1.ext hS3)).mono ?_
      rintro e' w9 ⟨o, rfl, ho, hE9⟩
      have hC9 := (hC8.ext hE83).ext hE9
      have hS9 := hS3.trans hE9
      have HE89 := hide hS9
      obtain ⟨qo, ko, rfl⟩ := ho.sl
      have HO9 := hide ho
      have HC9 := hide hC9
      have HZO : Hid (w8.heap.size ≤ Y3.heap.size) := hE83.size
      obtain ⟨-, z1, -, f1, -, hz15⟩ := hC9.cells
      clear hE8 hC8 hE9 ho hC9 hS3 hE83
      go_wp2_with fail
      refine ⟨rfl, hKK _ _ hS9 ?_⟩
      clear hKK KK
      try simp only [Act.put, List.getElem_toArray, List.getElem_cons_zero, List.setIfInBounds_toArray, List.set_cons_zero, List.set_cons_succ]
      refine wpAnyT_one (i := 10) rfl (by kernel_rfl) (fun KK hKK => ?_)
      go_wp2_with fail
      refine ⟨rfl, hKK _ _ hS9 ?_⟩
      clear hKK KK
      try simp only [Act.put, List.getElem_toArray, List.getElem_cons_zero, List.setIfInBounds_toArray, List.set_cons_zero, List.set_cons_succ]
      refine wpAnyT_take (i := 11) (.slice qo O.length ko) rfl (by kernel_rfl) (by kernel_rfl) (by kernel_rfl) (by simp [Region.wanted]) (fun V hV => by
        go_simp) hS9 ?_
      try simp only [Act.put, List.getElem_toArray, List.setIfInBounds_toArray]
      refine wpAnyT_take (i := 12) (.int .i64 0) rfl (by kernel_rfl) (by kernel_rfl) (by kernel_rfl) (by simp [Region.wanted]) (fun V hV => by
        go_simp) hS9 ?_
      try simp only [Act.put, List.getElem_toArray]
      refine wpAnyT_one (i := 13) rfl (by kernel_rfl) (fun KK hKK => ?_)
      go_wp2_with fail
      refine ⟨rfl, hKK _ _ hS9 ?_⟩
      clear hKK KK
      try simp only [Act.put, List.getElem_toArray, List.getElem_cons_zero, List.setIfInBounds_toArray, List.set_cons_zero, List.set_cons_succ]
      refine wpAnyT_one (i := 14) rfl (by kernel_rfl) (fun KK hKK => ?_)
      go_wp2_with fail
      refine ⟨rfl, hKK _ _ (HE89.out.setCell (by show wv.heap.size ≤ g15; have := HG15.out; omega) _) ?_⟩
      clear hKK KK hS9 z1 f1 hz15
      try simp only [Act.put, List.getElem_toArray, List.getElem_cons_zero, List.setIfInBounds_toArray, List.set_cons_zero, List.set_cons_succ]
      obtain ⟨wa, hwa⟩ : ∃ wa, w9.setCell ⟨g15, 1, none⟩ (.slice qo O.length ko) = wa := ⟨_, rfl⟩
      have HCX0 : Hid (CBox wa g15 (.slice qx x.length cx) (.slice qo O.length ko) (.slice none 0 0)) := by show CBox _ _ _ _ _; rw [← hwa]; exact HC9.out.set1 _
      have HXE0 : Hid (Ext wv wa) := by show Ext _ _; rw [← hwa]; exact HE89.out.setCell (by show wv.heap.size ≤ g15; have := HG15.out; omega) _
      have HOC : Hid (Coll 38 3 icells 1 wa Y3.heap.size (.slice qo O.length ko) O) := by
        have := HO9.out.stay (HC9.out.stay 1 (.slice qo O.length ko))
        rw [hwa] at this
        exact this
      rw [hwa]
      clear hwa HO9 HC9 HE89
      refine wpAnyT_one (i := 15) rfl (by kernel_rfl) (fun KK hKK => ?_)
      go_wp2_with fail
      refine ⟨rfl, hKK _ _ HXE0.out ?_⟩
      clear hKK KK
      try simp only [Act.put, List.getElem_toArray, List.getElem_cons_zero, List.setIfInBounds_toArray, List.set_cons_zero, List.set_cons_succ]
      refine wpAnyT_done (by kernel_rfl) ?_ _
      have HE2A := hide (HE2V.out.trans HXE0.out)
      have kd : Hid (∀ V, Ext w2 V → V.cell? ⟨w.heap.size, 9, none⟩ = some (.int .i64 ca.op) ∧ V.cell? ⟨w.heap.size, 10, none⟩ = some (.int .i64 ca.num) ∧ V.cell? ⟨w.heap.size, 11, none⟩ = some (.slice p3 ca.args.length c3) ∧ w.heap.size < V.heap.size) := fun V hV => by
        have hb := (hV.b.block _ (lt_of_heap HD0.out)).trans HD0.out
        exact ⟨decl_cells hb 9, decl_cells hb 10, decl_cells hb 11, lt_of_heap hb⟩
      obtain ⟨x0, x1, x2, -, -, hx15⟩ := HCX0.out.cells
      have hO0 : O = [] ∨ O ≠ [] := by by_cases h : O = [] <;> simp [h]
      rcases hO0 with hO0 | hO0
      · have HBD2 : Hid (caseBad ⟨Mi, Mo, wh, al, ca⟩ CC = true) := by
          show _ = _
          unfold caseBad; rw [HCO.out, hO0]; rfl
        have hdO : ((O.length : Int) == 0) = true := by rw [hO0]; rfl
        have HR := hide (HBAD.out HBD2.out)
        clear hO0
        have HTX := hide (HB0.out.ext HE2A.out)
        obtain ⟨t0, t1, t2, t3⟩ := HTX.out.cells
        obtain ⟨f0, f1, f2, f3⟩ := HTX.out.frozen
        go_wp2_with fail
        refine leave_task rfl rfl rfl rfl (HTX.out.store _ _ _ _) ?_
        rw [HR.out]
        exact ⟨_, rfl, TkAt.zero _, ext_store4 (HE2.out.trans HE2A.out) (by omega) _ _ _ _⟩
      have hdO : ((O.length : Int) == 0) = false := by
        have := List.length_pos_iff.2 hO0
        rw [beq_eq_false_iff_ne]; omega
      have HON := hide hO0
      clear hO0
      obtain ⟨k9, k10, k11, ksz⟩ := kd.out wa HE2A.out
      go_wp2_with fail
      refine (HABS.out wa (HEW.out.trans HXE0.out)).mono ?_
      rintro e' X ⟨rfl, hEX⟩
      have HXE := hide (HXE0.out.trans hEX)
      have HXW := hide (HEW.out.trans HXE.out)
      have HCX := hide (HCX0.out.ext hEX)
      have HSTX := hide (Stay.of_ext hEX)
      have HZX0 : Hid (wa.heap.size ≤ X.heap.size) := hEX.size
      clear k9 k10 k11 ksz HCX0 HXE0 hEX HE2A x0 x1 x2 hx15 hdO
      cases hab : absentE ca with
      | true =>
        have HABE := hide hab
        clear hab
        obtain ⟨X2, rfl⟩ : ∃ X2 : World, X2 = X := ⟨_, rfl⟩
        have HXE2 := HXE
        have HCX2 := HCX
        have HST2 := HSTX
        have HCL2 : Hid (Coll 38 3 icells 1 X2 0 (.slice none 0 0) ([] : List (List Int))) := Coll.nil _ _
        clear HXE HCX HSTX
        have HGD : Hid (caseBad ⟨Mi, Mo, wh, al, ca⟩ CC = false) := by
          show _ = _
          unfold caseBad
          rw [HCO.out, HABE.out]
          have := List.isEmpty_eq_false_iff.2 HON.out
          rw [this]; rfl
        obtain ⟨x0, x1, x2, -, -, hx15⟩ := HCX2.out.cells
        have HTK := hide (HTK.out.ext HXE2.out)
        have HOW := hide (HOW.out.ext HXE2.out)
        obtain ⟨y0, y1, y2, y3⟩ := HTK.out.cells
        obtain ⟨-, -, -, f3⟩ := HTK.out.frozen
        obtain ⟨qu, ku, hue⟩ := HOW.out.sl
        subst hue
        have hvs : vs.length ≤ 1024 := by have := HVL.out; have := HLL.out; omega
        have hb12 : g12 + 1 ≤ X2.heap.size + 1 := by have := lt_of_heap HTK.out; omega
        have hg12z := lt_of_heap HTK.out
        clear f3
        go_wp2_with (at_builtin; refine wpList_append1 rfl (.tmp 149) (.tmp 151) 45 rfl (g12 + 1) 90 (.agg #[.slice none 0 0, .slice none 0 0, .slice none 0 0]) 3 72 Tryd.underlying45 case_info rfl (by decide) _ vs (.slice qx x.length cx, .slice qo O.length ko, .slice none 0 0) X2.heap.size rfl (HOW.out.alloc _) rfl (cell_new_t X2 (.slice qx x.length cx, .slice qo O.length ko, .slice none 0 0)) (by intro z hz; simp only [List.mem_cons, List.not_mem_nil, or_false] at hz; rcases hz with rfl | rfl | rfl <;> rfl) (by omega) (by decide) (by simp only [World.size_alloc]; exact hb12) ?_; intro v' X3 hown3 hg3 hf3; obtain ⟨g3, c3', rfl, hf3⟩ := hf3; have hne3 : g12 ≠ g3 := ne_of_form hf3 (fun j hj => by have := (HOW.out.2.lt _ hj).1; omega) (by simp only [World.size_alloc]; omega); have HT3 : Hid (TBox X3 g12 (.int .i64 N) (.int .i64 Mi) (.int .i64 Mo) (.slice qu vs.length ku)) := (hg3.block _ (by simp only [World.size_alloc]; omega) (fun he => by have := (HOW.out.2.lt g12 he.symm).1; omega)).trans ((Below.heap_alloc _ _ _ hg12z).trans HTK.out); obtain ⟨-, -, -, w3⟩ := HT3.out.cells; obtain ⟨-, -, -, f3⟩ := HT3.out.frozen; have HG3 := hide hg3; have HO3 := hide hown3; clear hg3 hown3 hf3)
        have HSX : Hid (Stay wv X3) := (Stay.of_ext HXE2.out).trans ((Stay.of_ext ((Ext.refl X2).alloc _)).trans (Stay.grown HG3.out (HOW.out.alloc _).typed (by decide) (by decide)))
        have HS4 := hide (HSX.out.trans (HT3.out.stay3 (.slice (some ⟨g3, 0, none⟩) (vs.length + 1) c3')))
        have HT4 := hide (HT3.out.set3 (.slice (some ⟨g3, 0, none⟩) (vs.length + 1) c3'))
        have HO4 : Hid (Own tenc 3 (X3.setCell ⟨g12, 3, none⟩ (.slice (some ⟨g3, 0, none⟩) (vs.length + 1) c3')) (g12 + 1) 90 (.slice (some ⟨g3, 0, none⟩) (vs.length + 1) c3') (vs ++ [(.slice qx x.length cx, .slice qo O.length ko, .slice none 0 0)])) := HO3.out.setNe (fun k hk => by
          have : g3 = k := by injection hk
          subst this
          exact fun h => hne3 h.symm) _
        have HX3 : Hid (Ext wv X3 → False ∨ True) := fun _ => .inr trivial
        have HNEW : Hid (CaseAt (X3.setCell ⟨g12, 3, none⟩ (.slice (some ⟨g3, 0, none⟩) (vs.length + 1) c3')) (.slice qx x.length cx, .slice qo O.length ko, .slice none 0 0) CC) := by
          have hst : Stay X2 (X3.setCell ⟨g12, 3, none⟩ (.slice (some ⟨g3, 0, none⟩) (vs.length + 1) c3')) := ((Stay.of_ext ((Ext.refl X2).alloc _)).trans (Stay.grown HG3.out (HOW.out.alloc _).typed (by decide) (by decide))).trans (HT3.out.stay3 _)
          refine ⟨?_, ?_, ?_⟩
          · rw [HCI.out]; exact (HXR.out.stay (Stay.of_ext HXE2.out)).stay hst
          · rw [HCO.out]; exact ((HOC.out.stay HST2.out).mono (Nat.zero_le _)).stay hst
          · rw [HCA.out HABE.out]; exact (HCL2.out).stay hst
        have HEX : Hid (Ext w6 (X3.setCell ⟨g12, 3, none⟩ (.slice (some ⟨g3, 0, none⟩) (vs.length + 1) c3'))) :=
          ((((HE6V.out.trans HXE2.out).alloc _).grown HG3.out (fun k hk => by have := (HOW.out.2.lt k hk).1; have := HG12.out; omega)).setCell (by show w6.heap.size ≤ g12; have := HG12.out; omega) _)
        clear x0 x1 x2 y0 y1 y2 y3
        go_wp2_with fail
        refine ⟨⟨i + 1, by omega, by simp, HEX.out, ⟨_, _, HT4.out, HO4.out, by rw [List.length_append, HVL.out]; rfl, fun k t ht => ?_⟩, fun k hk => ?_⟩, by simp [intOf]; omega⟩
        · by_cases hkl : k < vs.length
          · rw [List.getElem?_append_left hkl] at ht
            exact (HCS.out k t ht).stay HS4.out
          · rw [List.getElem?_append_right (by omega)] at ht
            have hk0 : k = vs.length := by
              rcases Nat.eq_zero_or_pos (k - vs.length) with h | h
              · omega
              · rw [List.getElem?_eq_none (by simp; omega)] at ht; cases ht
            rw [hk0, Nat.sub_self] at ht
            simp only [List.getElem?_cons_zero, Option.some.injEq] at ht
            rw [← ht, show L.getD k [] = L.getD i [] by rw [hk0, HVL.out], HCC.out]
            exact HNEW.out
        · rcases Nat.lt_or_ge k i with h | h
          · exact HGOOD.out k h
          · rw [show k = i by omega, HCC.out]; exact HGD.out
      | false =>
        have HABE := hide hab
        have HCAL := hide (HCA2.out hab)
        have HPT : Hid (∀ y, holdsB ⟨N, x, y, gz⟩ ca = holdOut N x ca y) := fun y => rfl
        have HSF := hide (selL_full (holdOut N x ca) O)
        have HSY := hide (fun j => selL_yes (P := holdOut N x ca) (L := O) (j := j))
        have HSN := hide (fun j => selL_no (P := holdOut N x ca) (L := O) (j := j))
        have HSL := hide (selL_len (holdOut N x ca) O)
        have HS0 : Hid (selL (holdOut N x ca) O 0 = []) := rfl
        clear hab HCA HCA2
        generalize hCL : O.filter (holdOut N x ca) = CL at HCAL HSF
        generalize selL (holdOut N x ca) O = sel at HSF HSY HSN HSL HS0
        clear hCL
        have hOL := HOL.out
        have HZX := hide HZX0.out
        have HG15X : Hid (g15 < X.heap.size) := lt_of_heap HCX.out
        go_wp2_with fail
        go_loopw [16] (fun t Y => ∃ j : Nat, j ≤ O.length ∧ t = .int .i64 j ∧ Hid (Ext wv Y ∧ Stay wa Y ∧ ∃ cu, CBox Y g15 (.slice qx x.length cx) (.slice qo O.length ko) cu ∧ Coll 38 3 icells 1 Y X.heap.size cu (sel j)) ∧ Hid (X.heap.size ≤ Y.heap.size)) (fun t _ => O.length - (intOf t).toNat)
        case atStart => exact ⟨0, by omega, rfl, ⟨HXE.out, HSTX.out, _, HCX.out, by rw [HS0.out]; exact Coll.nil _ _⟩, Nat.le_refl _⟩
        case round =>
          obtain ⟨Y, rfl⟩ : ∃ Y : World, Y = wr := ⟨_, rfl⟩
          clear HCX HSTX HXE
          obtain ⟨j, hj, rfl, HI, HZY⟩ := hrel
          obtain ⟨hEY, hSY, cu, hCY, hcoll⟩ := HI.out
          obtain ⟨x0, x1, x2, -, -, hx15⟩ := hCY.cells
          by_cases hlt3 : j < O.length
          · obtain ⟨go, ko', yv, hqe, hgo, hcl0, -⟩ := HOC.out.at_ hlt3
            injection hqe with hq1 _ hq3
            subst hq1 hq3
            obtain ⟨go', ko', yv', hqe, -, hcl, hrow⟩ := (HOC.out.stay hSY).at_ hlt3
            injection hqe with hq1 _ hq3
            injection hq1 with hq1
            injection hq1 with hq1 _ _
            subst hq1 hq3
            obtain ⟨hok, hyl⟩ := HOK.out j hlt3
            have HYJ := hide (HSY.out j hlt3)
            have HNJ := hide (HSN.out j hlt3)
            have HLJ := hide (HSL.out j)
            generalize O.getD j [] = y at hrow hok hyl HYJ HNJ
            obtain ⟨qy, cy, rfl, -⟩ := hrow.1.int_all
            have HYR := hide hrow
            have HEY := hide hEY
            have HSY2 := hide hSY
            have HCY := hide hCY
            have HCO2 := hide hcoll
            have HYL := hide hyl
            have HGO := hide hgo
            have HCLY := hide hcl
            obtain ⟨k9, k10, k11, ksz⟩ := kd.out Y (HE2V.out.trans hEY)
            have hgoY : go < Y.heap.size := Nat.lt_of_lt_of_le hgo hSY.size
            have HTR := hide (fun W (hW : Ext Y W) => HTRU.out W (HEW.out.trans (hEY.trans hW)) x y _ _ (((HXR.out.stay (Stay.of_ext hEY)).1).ext hW) (HYR.out.1.ext hW) hok)
            rw [HPT.out y] at HTR
            clear hEY hSY hCY hcoll hok hyl hgo hcl0 hrow
            go_upto_region 35 with fail
            refine wp_region_ext (by kernel_rfl) (by kernel_rfl) ?_
            repeat (go_big_quiet_step ((go_at_call 51; exact Calls.ext_of (HTR.out _ (by simp [go_sem])))))
            refine wpQuiet_nil ?_
            rintro Y2 ⟨⟨_, hE2⟩, rfl⟩
            have HEY2 := hide (HEY.out.trans hE2)
            have HZY2 := hide (Nat.le_trans HZY.out hE2.size)
            have HSY3 := hide (HSY2.out.trans (Stay.of_ext hE2))
            have HCY2 := hide (HCY.out.ext hE2)
            have HCO3 := hide (HCO2.out.ext hE2)
            have HYR2 := hide (HYR.out.ext hE2)
            have HGO2 : Hid (Y2.cell? ⟨go, j, none⟩ = some (.slice qy y.length cy)) := (hE2.cell (p := ⟨go, j, none⟩) hgoY).trans HCLY.out
            have hgoY2 : go < Y2.heap.size := Nat.lt_of_lt_of_le hgoY hE2.size
            clear hE2 k9 k10 k11 ksz hcl HI x0 x1 x2 hx15 hgoY
            cases hp : holdOut N x ca y with
            | false =>
              have HS := hide (HNJ.out hp)
              clear hp HYJ HNJ
              go_wp2_with fail
              refine ⟨⟨j + 1, by omega, by simp, ⟨HEY2.out, HSY3.out, cu, HCY2.out, by rw [HS.out]; exact HCO3.out⟩, HZY2.out⟩, by simp [intOf]; omega⟩
            | true =>
              have HS := hide (HYJ.out hp)
              clear hp HYJ HNJ
              obtain ⟨qc, kc, rfl⟩ := HCO3.out.sl
              go_upto_region 36 with fail
              have hg15 := lt_of_heap HCY2.out
              obtain ⟨-, xx1, xx2, -, -, -⟩ := HCY2.out.cells
              have HX1 := hide xx1
              have HX2 := hide xx2
              have HGOZ := hide hgoY2
              clear xx1 xx2
              refine wp_region_heldB (fun V => V.heap[g15]? = Y2.heap[g15]? ∧ V.heap[go]? = Y2.heap[go]?) (fun j => j == 10) (by kernel_rfl) ?_
              intro Y3 hY3
              have hE3 : Ext Y2 Y3 := by rw [hY3]; exact (Ext.refl Y2).drew
              clear hY3
              have hS3 : Y3.heap[g15]? = Y2.heap[g15]? ∧ Y3.heap[go]? = Y2.heap[go]? := ⟨hE3.b.block _ hg15, hE3.b.block _ hgoY2⟩
              refine wpAnyT_takeB (i := 0) (.pointer (some ⟨g15, 2, none⟩)) rfl (by kernel_rfl) (fun j hj => ?_) (by kernel_rfl) (by kernel_rfl) (by simp [Region.wanted]) (fun V hV => by
                go_simp) hS3 ?_
              · obtain rfl : j = 10 := by simpa using hj
                kernel_rfl
              try simp only [Act.put, List.getElem_toArray, List.getElem_cons_zero, List.setIfInBounds_toArray, List.set_cons_zero, List.set_cons_succ]
              refine wpAnyT_takeB (i := 1) (.slice qc (sel j).length kc) rfl (by kernel_rfl) (fun j hj => ?_) (by kernel_rfl) (by kernel_rfl) (by simp [Region.wanted]) (fun V hV => by
                have hx := (World.cell?_of_block (a := ⟨g15, 2, none⟩) hV.1).trans HX2.out
                go_simp) hS3 ?_
              · obtain rfl : j = 10 := by simpa using hj
                kernel_rfl
              try simp only [Act.put, List.getElem_toArray, List.setIfInBounds_toArray]
              refine wpAnyT_takeB (i := 2) (.pointer (some ⟨g15, 1, none⟩)) rfl (by kernel_rfl) (fun j hj => ?_) (by kernel_rfl) (by kernel_rfl) (by simp [Region.wanted]) (fun V hV => by
                go_simp) hS3 ?_
              · obtain rfl : j = 10 := by simpa using hj
                kernel_rfl
              try simp only [Act.put, List.getElem_toArray]
              refine wpAnyT_takeB (i := 3) (.slice (some ⟨go, 0, none⟩) O.length ko) rfl (by kernel_rfl) (fun j hj => ?_) (by kernel_rfl) (by kernel_rfl) (by simp [Region.wanted]) (fun V hV => by
                have hx := (World.cell?_of_block (a := ⟨g15, 1, none⟩) hV.1).trans HX1.out
                go_simp) hS3 ?_
              · obtain rfl : j = 10 := by simpa using hj
                kernel_rfl
              try simp only [Act.put, List.getElem_toArray]
              refine wpAnyT_takeB (i := 4) (.int .i64 j) rfl (by kernel_rfl) (fun j hj => ?_) (by kernel_rfl) (by kernel_rfl) (by simp [Region.wanted]) (fun V hV => by
                go_simp) hS3 ?_
              · obtain rfl : j = 10 := by simpa using hj
                kernel_rfl
              try simp only [Act.put, List.getElem_toArray]
              refine wpAnyT_takeB (i := 5) (.pointer (some ⟨go, j, none⟩)) rfl (by kernel_rfl) (fun j hj => ?_) (by kernel_rfl) (by kernel_rfl) (by simp [Region.wanted]) (fun V hV => by
                go_simp) hS3 ?_
              · obtain rfl : j = 10 := by simpa using hj
                kernel_rfl
              try simp only [Act.put, List.getElem_toArray]
              refine wpAnyT_takeB (i := 6) (.slice qy y.length cy) rfl (by kernel_rfl) (fun j hj => ?_) (by kernel_rfl) (by kernel_rfl) (by simp [Region.wanted]) (fun V hV => by
                have hx := (World.cell?_of_block (a := ⟨go, j, none⟩) hV.2).trans HGO2.out
                go_simp) hS3 ?_
              · obtain rfl : j = 10 := by simpa using hj
                kernel_rfl
              try simp only [Act.put, List.getElem_toArray]
              have HE34 := hide hE3
              have hg15' : g15 < Y3.heap.size := Nat.lt_of_lt_of_le hg15 hE3.size
              have hgo' : go < Y3.heap.size := Nat.lt_of_lt_of_le hgoY2 hE3.size
              clear hE3
              refine wpAnyT_oneB (i := 7) rfl (by kernel_rfl) (fun KK hKK => ?_)
              go_wp2_with fail
              refine ⟨rfl, hKK _ _ (fun _ => ⟨(Below.heap_alloc _ _ _ hg15').trans hS3.1, (Below.heap_alloc _ _ _ hgo').trans hS3.2⟩) ?_⟩
              clear hKK KK
              try simp only [Act.put, List.getElem_toArray, List.getElem_cons_zero, List.setIfInBounds_toArray, List.set_cons_zero, List.set_cons_succ]
              refine wpAnyT_oneB (i := 8) rfl (by kernel_rfl) (fun KK hKK => ?_)
              have hlen5 : (sel j).length ≤ 1000000000000 := by have := HLJ.out; omega
              have HCO5 := hide (HCO3.out.ext HE34.out)
              have hbase5 : X.heap.size ≤ Y3.heap.size + 1 := by have := HE34.out.size; have := HZY2.out; omega
              refine wpList_push rfl (.tmp 134) (.tmp 140) 30 rfl X.heap.size 38 3 1 (by decide) Tryd.underlying30 islice_info _ (sel j) _ y Y3.heap.size rfl (HCO5.out.ext ((Ext.refl _).alloc _)) rfl (cell_new1 _ _ _) ((HYR2.out.ext HE34.out).ext ((Ext.refl _).alloc _)) hlen5 (by simp only [World.size_alloc]; exact hbase5) ?_
              intro v' Y5 hc5 hg5 hf5
              obtain ⟨g5, c5, rfl, -⟩ := hf5
              have hge5 : ∀ k, (Value.slice qc (sel j).length kc).ownBlock = some k → X.heap.size ≤ k := HCO5.out.block_ge
              have hg15X : g15 < X.heap.size := by have := HG15X.out; omega
              have hgoX : go < X.heap.size := Nat.lt_of_lt_of_le HGO.out HZX.out
              have hCY5 : CBox Y5 g15 (.slice qx x.length cx) (.slice (some ⟨go, 0, none⟩) O.length ko) (.slice qc (sel j).length kc) := (hg5.block _ (by simp only [World.size_alloc]; omega) (fun he => by have := hge5 g15 he.symm; omega)).trans ((Below.heap_alloc _ _ _ hg15').trans (hS3.1.trans HCY2.out))
              have hgo5 : Y5.heap[go]? = Y2.heap[go]? := (hg5.block _ (by simp only [World.size_alloc]; omega) (fun he => by have := hge5 go he.symm; omega)).trans ((Below.heap_alloc _ _ _ hgo').trans hS3.2)
              have hS5 : Y5.heap[g15]? = Y2.heap[g15]? ∧ Y5.heap[go]? = Y2.heap[go]? := ⟨hCY5.trans HCY2.out.symm, hgo5⟩
              have HEY5 : Hid (Ext wv Y5) := ((HEY2.out.trans HE34.out).alloc _).grown hg5 (fun k hk => by have := hge5 k hk; have := HG15.out; omega)
              have HSY5 : Hid (Stay wa Y5) := Stay.grownNew (HSY3.out.trans (Stay.of_ext (HE34.out.alloc _))) hg5 (fun k hk => Nat.le_trans HZX.out (hge5 k hk))
              have HZY5 : Hid (X.heap.size ≤ Y5.heap.size) := Nat.le_trans HZY2.out (Nat.le_trans HE34.out.size (by have := hg5.size; simp only [World.size_alloc] at this; omega))
              have HC5 := hide hc5
              have HCY5 := hide hCY5
              obtain ⟨-, -, z2, -, fz2, -⟩ := hCY5.cells
              clear hc5 hg5 hge5 hCY5 hlen5 hbase5 hgo5
              go_wp2_with fail
              refine ⟨rfl, hKK _ _ (fun _ => hS5) ?_⟩
              clear hKK KK
              try simp only [Act.put, List.getElem_toArray, List.setIfInBounds_toArray]
              refine wpAnyT_oneB (i := 9) rfl (by kernel_rfl) (fun KK hKK => ?_)
              go_wp2_with fail
              refine ⟨rfl, hKK _ _ (fun _ => hS5) ?_⟩
              clear hKK KK
              try simp only [Act.put, List.getElem_toArray, List.getElem_cons_zero, List.setIfInBounds_toArray, List.set_cons_zero, List.set_cons_succ]
              refine wpAnyT_oneB (i := 10) rfl (by kernel_rfl) (fun KK hKK => ?_)
              go_wp2_with fail
              refine ⟨rfl, hKK _ _ (fun h => by cases h) ?_⟩
              clear hKK KK
              refine wpAnyT_done (by kernel_rfl) ?_ _
              have HCY6 := hide (HCY5.out.set2 (.slice (some ⟨g5, 0, none⟩) ((sel j).length + 1) c5))
              have HSY6 := hide (HSY5.out.trans (HCY5.out.stay 2 (.slice (some ⟨g5, 0, none⟩) ((sel j).length + 1) c5)))
              have HC6 := hide (HC5.out.stay (HCY5.out.stay 2 (.slice (some ⟨g5, 0, none⟩) ((sel j).length + 1) c5)))
              clear z2 fz2
              go_wp2_with fail
              refine ⟨⟨j + 1, by omega, by simp, ⟨HEY5.out.setCell (by show wv.heap.size ≤ g15; have := HG15.out; omega) _, HSY6.out, _, HCY6.out, by rw [HS.out]; exact HC6.out⟩, by show X.heap.size ≤ _; simpa [World.setCell] using HZY5.out⟩, by simp [intOf]; omega⟩
          · obtain rfl : j = O.length := by omega
            rw [HSF.out] at hcoll
            obtain ⟨qc, kc, rfl⟩ := hcoll.sl
            obtain ⟨X0, rfl⟩ : ∃ X0, X0 = X := ⟨_, rfl⟩
            obtain ⟨X2, rfl⟩ : ∃ X2 : World, X2 = Y := ⟨_, rfl⟩
            have HXE2 := hide hEY
            have HST2 := hide hSY
            have HCX2 := hide hCY
            have HCL2 := hide (hcoll.mono (Nat.zero_le _))
            have hC0 : CL = [] ∨ CL ≠ [] := by by_cases h : CL = [] <;> simp [h]
            rcases hC0 with hC0 | hC0
            · have HBD2 : Hid (caseBad ⟨Mi, Mo, wh, al, ca⟩ CC = true) := by
                show _ = _
                unfold caseBad; rw [HABE.out, HCAL.out, hC0]; simp
              have hdC : ((CL.length : Int) == 0) = true := by rw [hC0]; rfl
              have HR := hide (HBAD.out HBD2.out)
              have HE2X := hide (HE2V.out.trans hEY)
              clear hC0 hEY hSY hCY hcoll HI
              have HTX := hide (HB0.out.ext HE2X.out)
              obtain ⟨t0, t1, t2, t3⟩ := HTX.out.cells
              obtain ⟨f0, f1, f2, f3⟩ := HTX.out.frozen
              go_wp2_with fail
              refine leave_task rfl rfl rfl rfl (HTX.out.store _ _ _ _) ?_
              rw [HR.out]
              exact ⟨_, rfl, TkAt.zero _, ext_store4 (HE2.out.trans HE2X.out) (by omega) _ _ _ _⟩
            have hdC : ((CL.length : Int) == 0) = false := by
              have := List.length_pos_iff.2 hC0
              rw [beq_eq_false_iff_ne]; omega
            have HCN := hide hC0
            clear hC0 hEY hSY hCY hcoll HI
            go_upto_region 39 with fail
            clear x0 x1 x2 hx15 hdC
            have HGD : Hid (caseBad ⟨Mi, Mo, wh, al, ca⟩ CC = false) := by
              show _ = _
              unfold caseBad
              rw [HCO.out, HABE.out, HCAL.out]
              have := List.isEmpty_eq_false_iff.2 HON.out
              rw [this, List.isEmpty_eq_false_iff.2 HCN.out]; rfl
            obtain ⟨x0, x1, x2, -, -, hx15⟩ := HCX2.out.cells
            have HTK := hide (HTK.out.ext HXE2.out)
            have HOW := hide (HOW.out.ext HXE2.out)
            obtain ⟨y0, y1, y2, y3⟩ := HTK.out.cells
            obtain ⟨-, -, -, f3⟩ := HTK.out.frozen
            obtain ⟨qu, ku, hue⟩ := HOW.out.sl
            subst hue
            have hvs : vs.length ≤ 1024 := by have := HVL.out; have := HLL.out; omega
            have hb12 : g12 + 1 ≤ X2.heap.size + 1 := by have := lt_of_heap HTK.out; omega
            have hg12z := lt_of_heap HTK.out
            clear f3
            go_wp2_with (at_builtin; refine wpList_append1 rfl (.tmp 149) (.tmp 151) 45 rfl (g12 + 1) 90 (.agg #[.slice none 0 0, .slice none 0 0, .slice none 0 0]) 3 72 Tryd.underlying45 case_info rfl (by decide) _ vs (.slice qx x.length cx, .slice qo O.length ko, .slice qc CL.length kc) X2.heap.size rfl (HOW.out.alloc _) rfl (cell_new_t X2 (.slice qx x.length cx, .slice qo O.length ko, .slice qc CL.length kc)) (by intro z hz; simp only [List.mem_cons, List.not_mem_nil, or_false] at hz; rcases hz with rfl | rfl | rfl <;> rfl) (by omega) (by decide) (by simp only [World.size_alloc]; exact hb12) ?_; intro v' X3 hown3 hg3 hf3; obtain ⟨g3, c3', rfl, hf3⟩ := hf3; have hne3 : g12 ≠ g3 := ne_of_form hf3 (fun j hj => by have := (HOW.out.2.lt _ hj).1; omega) (by simp only [World.size_alloc]; omega); have HT3 : Hid (TBox X3 g12 (.int .i64 N) (.int .i64 Mi) (.int .i64 Mo) (.slice qu vs.length ku)) := (hg3.block _ (by simp only [World.size_alloc]; omega) (fun he => by have := (HOW.out.2.lt g12 he.symm).1; omega)).trans ((Below.heap_alloc _ _ _ hg12z).trans HTK.out); obtain ⟨-, -, -, w3⟩ := HT3.out.cells; obtain ⟨-, -, -, f3⟩ := HT3.out.frozen; have HG3 := hide hg3; have HO3 := hide hown3; clear hg3 hown3 hf3)
            have HSX : Hid (Stay wv X3) := (Stay.of_ext HXE2.out).trans ((Stay.of_ext ((Ext.refl X2).alloc _)).trans (Stay.grown HG3.out (HOW.out.alloc _).typed (by decide) (by decide)))
            have HS4 := hide (HSX.out.trans (HT3.out.stay3 (.slice (some ⟨g3, 0, none⟩) (vs.length + 1) c3')))
            have HT4 := hide (HT3.out.set3 (.slice (some ⟨g3, 0, none⟩) (vs.length + 1) c3'))
            have HO4 : Hid (Own tenc 3 (X3.setCell ⟨g12, 3, none⟩ (.slice (some ⟨g3, 0, none⟩) (vs.length + 1) c3')) (g12 + 1) 90 (.slice (some ⟨g3, 0, none⟩) (vs.length + 1) c3') (vs ++ [(.slice qx x.length cx, .slice qo O.length ko, .slice qc CL.length kc)])) := HO3.out.setNe (fun k hk => by
              have : g3 = k := by injection hk
              subst this
              exact fun h => hne3 h.symm) _
            have HX3 : Hid (Ext wv X3 → False ∨ True) := fun _ => .inr trivial
            have HNEW : Hid (CaseAt (X3.setCell ⟨g12, 3, none⟩ (.slice (some ⟨g3, 0, none⟩) (vs.length + 1) c3')) (.slice qx x.length cx, .slice qo O.length ko, .slice qc CL.length kc) CC) := by
              have hst : Stay X2 (X3.setCell ⟨g12, 3, none⟩ (.slice (some ⟨g3, 0, none⟩) (vs.length + 1) c3')) := ((Stay.of_ext ((Ext.refl X2).alloc _)).trans (Stay.grown HG3.out (HOW.out.alloc _).typed (by decide) (by decide))).trans (HT3.out.stay3 _)
              refine ⟨?_, ?_, ?_⟩
              · rw [HCI.out]; exact (HXR.out.stay (Stay.of_ext HXE2.out)).stay hst
              · rw [HCO.out]; exact ((HOC.out.stay HST2.out).mono (Nat.zero_le _)).stay hst
              · rw [HCAL.out]; exact (HCL2.out).stay hst
            have HEX : Hid (Ext w6 (X3.setCell ⟨g12, 3, none⟩ (.slice (some ⟨g3, 0, none⟩) (vs.length + 1) c3'))) :=
              ((((HE6V.out.trans HXE2.out).alloc _).grown HG3.out (fun k hk => by have := (HOW.out.2.lt k hk).1; have := HG12.out; omega)).setCell (by show w6.heap.size ≤ g12; have := HG12.out; omega) _)
            clear x0 x1 x2 y0 y1 y2 y3
            go_wp2_with fail
            refine ⟨⟨i + 1, by omega, by simp, HEX.out, ⟨_, _, HT4.out, HO4.out, by rw [List.length_append, HVL.out]; rfl, fun k t ht => ?_⟩, fun k hk => ?_⟩, by simp [intOf]; omega⟩
            · by_cases hkl : k < vs.length
              · rw [List.getElem?_append_left hkl] at ht
                exact (HCS.out k t ht).stay HS4.out
              · rw [List.getElem?_append_right (by omega)] at ht
                have hk0 : k = vs.length := by
                  rcases Nat.eq_zero_or_pos (k - vs.length) with h | h
                  · omega
                  · rw [List.getElem?_eq_none (by simp; omega)] at ht; cases ht
                rw [hk0, Nat.sub_self] at ht
                simp only [List.getElem?_cons_zero, Option.some.injEq] at ht
                rw [← ht, show L.getD k [] = L.getD i [] by rw [hk0, HVL.out], HCC.out]
                exact HNEW.out
            · rcases Nat.lt_or_ge k i with h | h
              · exact HGOOD.out k h
              · rw [show k = i by omega, HCC.out]; exact HGD.out
    · obtain rfl : i = L.length := by omega
      obtain ⟨hE6V, ⟨u, vs, hTB, hown, hvl, hcs⟩, hgood⟩ := HJ.out
      have HR := hide (HR4.out hgood)
      have HTV := hide (HT6.out.ext hE6V)
      obtain ⟨t0, t1, t2, t3⟩ := HTV.out.cells
      obtain ⟨f0, f1, f2, f3⟩ := HTV.out.frozen
      obtain ⟨y0, y1, y2, y3⟩ := hTB.cells
      have hsz12 := lt_of_heap hTB
      have hg2 : w.heap.size + 1 < g12 := by have := HE26.out.size; have := HG12.out; omega
      have HALL : Hid (TkAt ((((wr.setCell ⟨w.heap.size + 1, 0, none⟩ (.int .i64 N)).setCell ⟨w.heap.size + 1, 1, none⟩ (.int .i64 Mi)).setCell ⟨w.heap.size + 1, 2, none⟩ (.int .i64 Mo)).setCell ⟨w.heap.size + 1, 3, none⟩ u) (.agg #[.int .i64 N, .int .i64 Mi, .int .i64 Mo, u]) ⟨N, Mi, Mo, L.map (caseS N Mo ⟨Mi, Mo, wh, al, ca⟩)⟩) := by
        refine ⟨u, vs, rfl, by rw [hvl, List.length_map], (own_store4 hown (show w.heap.size + 1 < g12 + 1 by omega) _ _ _ _).row (by have := HLL.out; omega), fun k t c ht hc => ?_⟩
        have hkl : k < L.length := by
          rcases Nat.lt_or_ge k vs.length with h | h
          · omega
          · rw [List.getElem?_eq_none h] at ht; cases ht
        have := (hcs k t ht).stay (HTV.out.stay4 (.int .i64 N) (.int .i64 Mi) (.int .i64 Mo) u)
        rw [List.getElem?_map, List.getElem?_eq_getElem hkl] at hc
        rw [List.getD_eq_getElem?_getD, List.getElem?_eq_getElem hkl] at this
        simp only [Option.map_some, Option.some.injEq] at hc
        rw [← hc]
        exact this
      have HEE := hide (HE2.out.trans (HE26.out.trans hE6V))
      obtain ⟨qu, cu, hue⟩ := hown.sl
      subst hue
      clear hE6V hTB hown hvl hcs hgood HJ
      go_wp2_with fail
      refine leave_task rfl rfl rfl rfl (HTV.out.store _ _ _ _) ?_
      rw [HR.out]
      exact ⟨_, rfl, HALL.out, ext_store4 HEE.out (by omega) _ _ _ _⟩
theorem rtask_any (n : Int) (d : Dc) (v : Value) (w : World) (hT : Tab w) (hv : DcAt w v d) (hn1 : d.wh.nodes ≤ 100000) (hn2 : d.al.nodes ≤ 100000) (hn3 : d.ca.nodes ≤ 100000) (hf1 : fewV n d.ins) (hf2 : fewV n d.outs) :
    Calls Tryd.prog 20 #[.int .i64 n, v] w (RetV2 (fun u w' => TkAt w' u (taskS n d).1) (taskS n d).2 w) := by
  obtain ⟨s, p1, c1, p2, c2, p3, c3, rfl, h1, h2, h3⟩ := hv
  by_cases hs : sizesS n [d.ins, d.outs] ≠ 0
  · have e : taskS n d = (.zero, 2) := by unfold taskS; rw [if_pos hs]
    rw [e]
    exact rtask_sizes n d s p1 c1 p2 c2 p3 c3 w hs
  · obtain ⟨a1, a2, a3, a4, a5, a6⟩ := sizes_two (by simpa using hs)
    obtain ⟨ins, outs, wh, al, ca⟩ := d
    dsimp only at *
    obtain ⟨N, rfl⟩ := Int.eq_ofNat_of_zero_le (show 0 ≤ n by omega)
    obtain ⟨Mi, rfl⟩ := Int.eq_ofNat_of_zero_le (show 0 ≤ ins by omega)
    obtain ⟨Mo, rfl⟩ := Int.eq_ofNat_of_zero_le (show 0 ≤ outs by omega)
    have g1 := hf1 a1 a2 a3 a4
    have g2 := hf2 a1 a2 a5 a6
    rw [Int.toNat_natCast, Int.toNat_natCast] at g1 g2
    exact rtask_main N Mi Mo wh al ca s p1 c1 p2 c2 p3 c3 w (by omega) (by omega) (by omega) (by omega) (by omega) (by omega) g1 g2 hT hn1 hn2 hn3 h1 h2 h3
end Go.Proofs.YthpccmmdkbjjhaaDoor
