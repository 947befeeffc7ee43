/-
  The reference's Graphs (roundtableref13), SameAll (roundtableref03).
  Conditions: as each theorem states.
-/
import Derived.Test.YthpccmmdkbjjhaaDoorDelG
import Derived.Test.YthpccmmdkbjjhaaDoorGrAll
import Derived.Test.YthpccmmdkbjjhaaDoorFound
namespace Go.Proofs.YthpccmmdkbjjhaaDoor
open Go.RowKit
attribute [local go_sem] Oper.semAt_some

def holdG (N : Nat) (e : Ex) (g : Gr) : Bool := truthB ⟨N, [], [], g⟩ e
/-- What Graphs returns. -/
def graphsS (n : Int) (e : Ex) : List Gr × Int :=
  if condS e 4 ≠ 0 then ([], condS e 4) else if (allS n).2 ≠ 0 then ([], (allS n).2) else ((allS n).1.filter (holdG n.toNat e), 0)
theorem Gr.h_set (g : Gr) (p k : Nat) (x : Int) : (g.set p x).h k = g.h k ∨ (g.set p x).h k = x := by
  match p with
  | 0 => match k with | 0 => exact .inr rfl | 1 => exact .inl rfl | 2 => exact .inl rfl | 3 => exact .inl rfl | 4 => exact .inl rfl | _ + 5 => exact .inl rfl
  | 1 => match k with | 0 => exact .inl rfl | 1 => exact .inr rfl | 2 => exact .inl rfl | 3 => exact .inl rfl | 4 => exact .inl rfl | _ + 5 => exact .inl rfl
  | 2 => match k with | 0 => exact .inl rfl | 1 => exact .inl rfl | 2 => exact .inr rfl | 3 => exact .inl rfl | 4 => exact .inl rfl | _ + 5 => exact .inl rfl
  | 3 => match k with | 0 => exact .inl rfl | 1 => exact .inl rfl | 2 => exact .inl rfl | 3 => exact .inr rfl | 4 => exact .inl rfl | _ + 5 => exact .inl rfl
  | 4 => match k with | 0 => exact .inl rfl | 1 => exact .inl rfl | 2 => exact .inl rfl | 3 => exact .inl rfl | 4 => exact .inr rfl | _ + 5 => exact .inl rfl
  | _ + 5 => exact .inl rfl
theorem allG_bd {n : Nat} (hn : n ≤ 5) : ∀ p, ∀ g ∈ allG n p, ∀ k, 0 ≤ g.h k ∧ g.h k ≤ 32
  | 0, g, hg, k => by
    simp only [allG, List.mem_singleton] at hg
    subst hg
    match k with
    | 0 => simp [Gr.h]
    | 1 => simp [Gr.h]
    | 2 => simp [Gr.h]
    | 3 => simp [Gr.h]
    | 4 => simp [Gr.h]
    | _ + 5 => simp [Gr.h]
  | p + 1, g, hg, k => by
    have h2 : 2 ^ n ≤ 2 ^ 5 := Nat.pow_le_pow_right (by decide) hn
    simp only [allG, flatG, List.mem_flatMap, rowsP, setsP, List.mem_map, List.mem_filter, List.mem_range] at hg
    obtain ⟨x, hx, i, ⟨hi, _⟩, rfl⟩ := hg
    have ih := allG_bd hn p x (List.mem_of_mem_take hx) k
    rcases Gr.h_set x p k (i : Int) with h | h
    · rw [h]; exact ih
    · rw [h]; omega
theorem getD_mem_gr {L : List Gr} {i : Nat} (h : i < L.length) : L.getD i default ∈ L := by
  rw [List.getD_eq_getElem?_getD, List.getElem?_eq_getElem h]; exact List.getElem_mem h
theorem sc_gr {N : Nat} {g : Gr} (h1 : 1 ≤ N) (h5 : N ≤ 5) (hg : ∀ k, 0 ≤ g.h k ∧ g.h k ≤ 32) : Sc.ok ⟨N, [], [], g⟩ :=
  ⟨h1, h5, fun x hx => (by cases hx), fun x hx => (by cases hx), fun k _ => ⟨(hg k).1, by have := (hg k).2; show g.h k ≤ _; omega⟩⟩
set_option maxHeartbeats 1000000 in
theorem grok_any (n : Nat) (e : Ex) (g : Gr) (bc bn : Nat) (w : World) (hT : Tab w) (hb : ExBox w bc e) (hn : w.heap[bn]? = some (.cells #[.int .i64 n] 3 (0, 0))) (hs : Sc.ok ⟨n, [], [], g⟩) (hno : e.nodes ≤ 100000) :
    Calls Tryd.prog 66 #[g.v, P0 bc, P0 bn] w fun e' w' => e' = .returned (.bool (!holdG n e g)) ∧ Ext w w' := by
  obtain ⟨p, c, hbl, hv⟩ := hb
  have hE0 : Ext w (w.alloc (.cells (Gr.cells g).toArray 70)) := (Ext.refl w).alloc _
  have HH := hide (ptruth_ex ⟨n, [], [], g⟩ hs e _ (.agg #[.int .i64 n, .slice none 0 0, .slice none 0 0, .int .i64 g.h0, .int .i64 g.h1, .int .i64 g.h2, .int .i64 g.h3, .int .i64 g.h4, .slice none 0 0]) (w.alloc (.cells (Gr.cells g).toArray 70)) (hT.ext hE0) (hv.ext hE0) hno ⟨_, _, _, rfl, Row.nil _ _ _, Row.nil _ _ _, Row.nil _ _ _⟩)
  obtain ⟨c0, c1, c2, hz⟩ := xbox3 hbl (Ext.refl w)
  obtain ⟨d0, hz2⟩ := IBox.at_ hn
  clear hbl hv hn hs hT
  unfold holdG
  generalize truthB ⟨n, [], [], g⟩ e = res at HH ⊢
  obtain ⟨gn, a, b, c', d, f⟩ := g
  go_enter Tryd.func66, Tryd.ntmps66
  go_wp2_with fail
  refine HH.out.mono ?_
  rintro e' w1 ⟨rfl, hE1⟩
  go_wp2_with fail
  go_ret
  exact ⟨rfl, hE0.trans hE1⟩
theorem allS_zero {n : Int} (h : (allS n).2 = 0) : 1 ≤ n ∧ n ≤ 4 ∧ (allS n).1 = allG n.toNat n.toNat := by
  unfold allS at h ⊢
  by_cases h1 : n < 1 ∨ 5 < n
  · rw [if_pos h1] at h; exact absurd h (by decide)
  rw [if_neg h1] at h ⊢
  by_cases h2 : n = 5
  · rw [if_pos h2] at h; exact absurd h (by decide)
  rw [if_neg h2]
  exact ⟨by omega, by omega, rfl⟩
theorem allG_short {n : Nat} (h1 : 1 ≤ n) (h4 : n ≤ 4) : (allG n n).length ≤ 4096 := by
  rw [allG_len (by omega) n (Nat.le_refl _)]
  obtain rfl | rfl | rfl | rfl : n = 1 ∨ n = 2 ∨ n = 3 ∨ n = 4 := by omega
  all_goals decide
set_option maxHeartbeats 2000000 in
theorem pgraphs_any (n : Int) (e : Ex) (v : Value) (w : World) (hT : Tab w) (hv : ExAt w v e) (hno : e.nodes ≤ 100000) :
    Calls Tryd.prog 22 #[.int .i64 n, v] w (RetV2 (fun u w' => Row Gr.cells 6 w' u (graphsS n e).1) (graphsS n e).2 w) := by
  have HGI := hide (fun W (hW : Ext w W) => cgraphs_any e v W (hT.ext hW) (hv.ext hW) hno)
  have HAL := hide (fun W => all_any n W)
  have HT := hide hT
  obtain ⟨p, c, rfl, hc, hl⟩ := hv.form
  have HV := hide hv
  clear hv hT
  obtain ⟨w2, hw2⟩ : ∃ w2, (w.alloc (.cells #[.int .i64 n] 3)).alloc (.cells #[.int .i64 e.op, .int .i64 e.num, .slice p e.args.length c] 26) = w2 := ⟨_, rfl⟩
  have hE2 : Ext w w2 := by rw [← hw2]; exact ((Ext.refl w).alloc _).alloc _
  have hbn : Box w2 w.heap.size 3 (.int .i64 n) := by rw [← hw2]; exact (Box.new w _ _).alloc _
  have hbc : w2.heap[w.heap.size + 1]? = some (.cells #[.int .i64 e.op, .int .i64 e.num, .slice p e.args.length c] 26 (0, 0)) := by
    rw [← hw2]; have := heap_alloc_new (w.alloc (.cells #[.int .i64 n] 3)) (.cells #[.int .i64 e.op, .int .i64 e.num, .slice p e.args.length c] 26)
    rwa [World.size_alloc] at this
  have HW2 := hide hw2
  have HBN := hide hbn
  have HBC := hide hbc
  obtain ⟨c0, c1, c2, hz⟩ := xbox3 hbc (Ext.refl w2)
  clear hw2 hbc hbn
  unfold graphsS
  by_cases h1 : condS e 4 ≠ 0
  · rw [if_pos h1]
    have hd : (condS e 4 != 0) = true := by simp [h1]
    clear h1
    generalize condS e 4 = ge at HGI hd ⊢
    go_enter Tryd.func22, Tryd.ntmps22
    go_wp2_with fail
    rw [HW2.out]
    refine (HGI.out _ hE2).mono ?_
    rintro e' w4 ⟨rfl, hE4⟩
    go_wp2_with fail
    go_ret2
    exact ⟨_, rfl, Row.nil _ _ _, hE2.trans hE4⟩
  rw [if_neg h1]
  have h10 : condS e 4 = 0 := by simpa using h1
  rw [h10] at HGI
  clear h1 h10
  by_cases h2 : (allS n).2 ≠ 0
  · rw [if_pos h2]
    have hd : ((allS n).2 != 0) = true := by simp [h2]
    clear h2
    generalize allS n = al at HAL hd ⊢
    obtain ⟨all, ae⟩ := al
    go_enter Tryd.func22, Tryd.ntmps22
    go_wp2_with fail
    rw [HW2.out]
    refine (HGI.out _ hE2).mono ?_
    rintro e' w4 ⟨rfl, hE4⟩
    have hcn4 := (HBN.out.ext hE4).cell
    go_wp2_with fail
    refine (HAL.out w4).mono ?_
    rintro e' w5 ⟨u, rfl, hu, hE5⟩
    obtain ⟨q, k, rfl⟩ := hu.sl
    clear hu hcn4
    go_wp2_with fail
    go_ret2
    exact ⟨_, rfl, Row.nil _ _ _, (hE2.trans hE4).trans hE5⟩
  rw [if_neg h2]
  have h20 : (allS n).2 = 0 := by simpa using h2
  obtain ⟨hn1, hn4, hal⟩ := allS_zero h20
  rw [h20] at HAL
  rw [hal] at HAL ⊢
  obtain ⟨N, rfl⟩ := Int.eq_ofNat_of_zero_le (show 0 ≤ n by omega)
  rw [Int.toNat_natCast] at HAL ⊢
  have HN : Hid (1 ≤ N ∧ N ≤ 4) := ⟨by omega, by omega⟩
  have HSH := hide (allG_short HN.out.1 HN.out.2)
  have HDEL := hide (fun W V (hW : Ext w W) hbc hbn u (hE : Ext W V) ho => delete_gr (w.heap.size + 1) w.heap.size (fun g => !holdG N e g) (allG N N) u W V W.heap.size hE (Nat.le_refl _) ho (by have := HSH.out; omega)
    (fun X i hX hi => grok_any N e ((allG N N).getD i default) (w.heap.size + 1) w.heap.size X (HT.out.ext (hW.trans hX)) (ExBox.ext hbc hX) (Box.ext hbn hX) (sc_gr HN.out.1 (by have := HN.out.2; omega) (fun k => allG_bd (by have := HN.out.2; omega) N _ (getD_mem_gr hi) k)) hno))
  have hfil : ((allG N N).filter fun x => !(fun g => !holdG N e g) x) = (allG N N).filter (holdG N e) := by congr 1; funext x; simp
  rw [hfil] at HDEL
  clear h2 h20 hal hn1 hn4 hfil
  go_enter Tryd.func22, Tryd.ntmps22
  go_wp2_with fail
  rw [HW2.out]
  refine (HGI.out _ hE2).mono ?_
  rintro e' w4 ⟨rfl, hE4⟩
  have hcn4 := (HBN.out.ext hE4).cell
  go_wp2_with fail
  refine (HAL.out w4).mono ?_
  rintro e' w5 ⟨u, rfl, hu, hE5⟩
  have HD := hide (HDEL.out w4 w5 (hE2.trans hE4) ⟨p, c, (hE4.b.block _ (lt_of_heap HBC.out)).trans HBC.out, HV.out.ext (hE2.trans hE4)⟩ (HBN.out.ext hE4) u hE5 hu)
  obtain ⟨q, k, rfl⟩ := hu.sl
  clear hu hcn4 c0 c1 c2 hz
  go_wp2_with fail
  refine HD.out.mono ?_
  rintro e' w6 ⟨⟨u, rfl, hu⟩, hE6⟩
  have HU := hide hu
  obtain ⟨q2, k2, rfl, -⟩ := hu.gr_all
  clear hu
  go_wp2_with fail
  go_ret2
  exact ⟨_, rfl, HU.out, (hE2.trans hE4).trans hE6⟩
end Go.Proofs.YthpccmmdkbjjhaaDoor

namespace Go.Proofs.YthpccmmdkbjjhaaDoor
open Go.RowKit
attribute [local go_sem] Oper.semAt_some

def selG (P : Gr → Bool) (L : List Gr) (j : Nat) : List Gr := (L.take j).filter P
theorem selG_yes {P : Gr → Bool} {L : List Gr} {j : Nat} (h : j < L.length) (hp : P (L.getD j default) = true) : selG P L (j + 1) = selG P L j ++ [L.getD j default] := by
  rw [List.getD_eq_getElem?_getD, List.getElem?_eq_getElem h] at hp ⊢
  unfold selG; rw [List.take_succ_eq_append_getElem h, List.filter_append]; simp at hp; simp [hp]
theorem selG_no {P : Gr → Bool} {L : List Gr} {j : Nat} (h : j < L.length) (hp : P (L.getD j default) = false) : selG P L (j + 1) = selG P L j := by
  rw [List.getD_eq_getElem?_getD, List.getElem?_eq_getElem h] at hp
  unfold selG; rw [List.take_succ_eq_append_getElem h, List.filter_append]; simp at hp; simp [hp]
theorem selG_len (P : Gr → Bool) (L : List Gr) (j : Nat) : (selG P L j).length ≤ j := by
  unfold selG; exact Nat.le_trans (List.length_filter_le _ _) (by rw [List.length_take]; omega)
theorem selG_full (P : Gr → Bool) (L : List Gr) : selG P L L.length = L.filter P := by unfold selG; rw [List.take_of_length_le (Nat.le_refl _)]

set_option maxRecDepth 16000 in
set_option maxHeartbeats 4000000 in
theorem rgraphs_any (n : Int) (e : Ex) (v : Value) (w : World) (hv : ExAt w v e) (hno : e.nodes ≤ 100000) :
    Calls Tryd.prog 23 #[.int .i64 n, v] w (RetV2 (fun u w' => Row Gr.cells 6 w' u (graphsS n e).1) (graphsS n e).2 w) := by
  have HGI := hide (fun W (hW : Ext w W) => rcond_any e 4 v W (hv.ext hW) hno (by decide))
  have HAL := hide (fun W => rall_any n W)
  have HTR := hide (fun (N : Nat) (g : Gr) (hs : Sc.ok ⟨N, [], [], g⟩) W (hW : Ext w W) => rtruth_ex ⟨N, [], [], g⟩ hs e v (.agg #[.int .i64 N, .slice none 0 0, .slice none 0 0, .int .i64 g.h0, .int .i64 g.h1, .int .i64 g.h2, .int .i64 g.h3, .int .i64 g.h4, .slice none 0 0]) W (hv.ext hW) hno ⟨_, _, _, rfl, Row.nil _ _ _, Row.nil _ _ _, Row.nil _ _ _⟩)
  obtain ⟨p, c, rfl, hc, hl⟩ := hv.form
  clear hv
  have hE0 : Ext w (w.alloc (.cells #[.int .i64 e.op, .int .i64 e.num, .slice p e.args.length c] 26)) := (Ext.refl w).alloc _
  have HB := hide (fun w1 => xbox w e.op e.num (.slice p e.args.length c) (w1 := w1))
  obtain ⟨c0, c1, c2, hz⟩ := HB.out _ (Ext.refl _)
  unfold graphsS
  by_cases h1 : condS e 4 ≠ 0
  · rw [if_pos h1]
    have hd : (condS e 4 != 0) = true := by simp [h1]
    clear h1
    generalize condS e 4 = ge at HGI hd ⊢
    go_enter Tryd.func23, Tryd.ntmps23
    go_wp2_with fail
    refine (HGI.out _ hE0).mono ?_
    rintro e' w4 ⟨rfl, hE4⟩
    go_wp2_with fail
    go_ret2
    exact ⟨_, rfl, Row.nil _ _ _, hE0.trans hE4⟩
  rw [if_neg h1]
  have h10 : condS e 4 = 0 := by simpa using h1
  rw [h10] at HGI
  clear h1 h10
  by_cases h2 : (allS n).2 ≠ 0
  · rw [if_pos h2]
    have hd : ((allS n).2 != 0) = true := by simp [h2]
    clear h2
    generalize allS n = al at HAL hd ⊢
    obtain ⟨all, ae⟩ := al
    go_enter Tryd.func23, Tryd.ntmps23
    go_wp2_with fail
    refine (HGI.out _ hE0).mono ?_
    rintro e' w4 ⟨rfl, hE4⟩
    go_wp2_with fail
    refine (HAL.out w4).mono ?_
    rintro e' w5 ⟨u, rfl, hu, hE5⟩
    obtain ⟨q, k, rfl⟩ := hu.sl
    clear hu
    go_wp2_with fail
    go_ret2
    exact ⟨_, rfl, Row.nil _ _ _, (hE0.trans hE4).trans hE5⟩
  rw [if_neg h2]
  have h20 : (allS n).2 = 0 := by simpa using h2
  obtain ⟨hn1, hn4, hal⟩ := allS_zero h20
  rw [h20] at HAL
  rw [hal] at HAL ⊢
  obtain ⟨N, rfl⟩ := Int.eq_ofNat_of_zero_le (show 0 ≤ n by omega)
  rw [Int.toNat_natCast] at HAL ⊢
  have HN : Hid (1 ≤ N ∧ N ≤ 4) := ⟨by omega, by omega⟩
  have hLL := allG_short HN.out.1 HN.out.2
  have HBD : Hid (∀ i, i < (allG N N).length → Sc.ok ⟨N, [], [], (allG N N).getD i default⟩) := fun i hi => sc_gr HN.out.1 (by have := HN.out.2; omega) (fun k => allG_bd (by have := HN.out.2; omega) N _ (getD_mem_gr hi) k)
  have HYES := hide (fun j => selG_yes (P := holdG N e) (L := allG N N) (j := j))
  have HNO := hide (fun j => selG_no (P := holdG N e) (L := allG N N) (j := j))
  have HFUL := hide (selG_full (holdG N e) (allG N N))
  have HLEN := hide (selG_len (holdG N e) (allG N N))
  have HS0 : Hid (selG (holdG N e) (allG N N) 0 = []) := rfl
  generalize hf : (allG N N).filter (holdG N e) = fin at HFUL ⊢
  clear hf
  generalize selG (holdG N e) (allG N N) = sel at HYES HNO HFUL HLEN HS0
  generalize allG N N = L at *
  clear h2 h20 hal hn1 hn4
  go_enter Tryd.func23, Tryd.ntmps23
  go_wp2_with fail
  refine (HGI.out _ hE0).mono ?_
  rintro e' w4 ⟨rfl, hE4⟩
  go_wp2_with fail
  refine (HAL.out w4).mono ?_
  rintro e' w5 ⟨u, rfl, hu, hE5⟩
  have HROW := hide (hu.row (by omega))
  obtain ⟨q, k, rfl⟩ := hu.sl
  have HE5 := hide (hE4.trans hE5)
  clear hu hE4 hE5 c0 c1 c2 hz
  go_wp2_with fail
  go_loopw [9, 10] (fun u x wr => ∃ i : Nat, i ≤ L.length ∧ x = .int .i64 i ∧ Hid (Own Gr.cells 6 wr w5.heap.size 70 u (sel i)) ∧ Hid (Ext w5 wr)) (fun _ x _ => L.length - (intOf x).toNat)
  case atStart => exact ⟨0, by omega, rfl, by rw [HS0.out]; exact Own.nil _ _ _ (fun _ => rfl), Ext.refl _⟩
  case round =>
    obtain ⟨i, hi, rfl, HO, HE⟩ := hrel
    by_cases hlt : i < L.length
    · obtain ⟨c0, c1, c2, hz⟩ := HB.out _ (HE5.out.trans HE.out)
      obtain ⟨q', c', hqe, -, -, hat⟩ := (HROW.out.ext HE.out).gr_all
      injection hqe with hq1 _ hq3
      subst hq1 hq3
      obtain ⟨b1, o1, rfl, hb1, hat⟩ := hat (by omega)
      have HGR := hide (hat i hlt)
      clear hat
      have HTI := hide (HTR.out N (L.getD i default) (HBD.out i hlt))
      have HYI := hide (HYES.out i hlt)
      have HNI := hide (HNO.out i hlt)
      have HLI := hide (HLEN.out i)
      have hHG : holdG N e (L.getD i default) = truthB ⟨N, [], [], L.getD i default⟩ e := rfl
      rw [hHG] at HYI HNI
      clear hHG
      generalize L.getD i default = y at HGR HTI HYI HNI
      generalize truthB ⟨N, [], [], y⟩ e = r at HTI HYI HNI
      obtain ⟨x0, x1, x2, x3, x4, x5⟩ := HGR.out
      replace x0 := x0 _ (Ext.refl _)
      replace x1 := x1 _ (Ext.refl _)
      replace x2 := x2 _ (Ext.refl _)
      replace x3 := x3 _ (Ext.refl _)
      replace x4 := x4 _ (Ext.refl _)
      replace x5 := x5 _ (Ext.refl _)
      have HEW : Hid (Ext w wr) := hE0.trans (HE5.out.trans HE.out)
      cases r with
      | true =>
        have HS := hide (HYI.out rfl)
        clear HYI HNI
        go_wp2_with fail
        refine wp_region_ext (by kernel_rfl) (by kernel_rfl) ?_
        repeat (go_big_quiet_step ((go_at_call 68; exact Calls.ext_of (HTI.out _ (by simp [go_sem, HEW.out])))))
        refine wpQuiet_nil ?_
        rintro w9 ⟨⟨_, hE9⟩, rfl⟩
        clear x0 x1 x2 x3 x4 x5 c0 c1 c2 hz
        obtain ⟨x0, x1, x2, x3, x4, x5⟩ := HGR.out
        replace x0 := x0 _ hE9
        replace x1 := x1 _ hE9
        replace x2 := x2 _ hE9
        replace x3 := x3 _ hE9
        replace x4 := x4 _ hE9
        replace x5 := x5 _ hE9
        have hb9 := Nat.lt_of_lt_of_le hb1 hE9.size
        have HO9 := hide (HO.out.ext hE9)
        have HE9 := hide (HE.out.trans hE9)
        clear hE9 hb1
        go_wp2_with (at_builtin; refine wpList_append1 rfl (.tmp 39) (.tmp 44) 54 rfl w5.heap.size 70 (Gr.v default) 6 48 Tryd.underlying54 graph_info rfl (by decide) _ (sel i) y w9.heap.size rfl (HO9.out.alloc _) rfl (cell_new_gr _ _) (gr_one _) (by have := HLI.out; omega) (by decide) (by have := HE9.out.size; simp; omega) ?_; intro v2 w2 hown2 hg2 hf2)
        have HE4 := hide ((HE9.out.alloc _).grown hg2 HO9.out.block_ge)
        rw [← HS.out] at hown2
        have HO2 := hide hown2
        clear hown2 hg2 hf2
        go_roundw
        case rel => exact ⟨i + 1, by omega, by go_num, HO2.out, HE4.out⟩
        case measure => simp [intOf]; omega
      | false =>
        have HS := hide (HNI.out rfl)
        clear HYI HNI
        go_wp2_with fail
        refine wp_region_ext (by kernel_rfl) (by kernel_rfl) ?_
        repeat (go_big_quiet_step ((go_at_call 68; exact Calls.ext_of (HTI.out _ (by simp [go_sem, HEW.out])))))
        refine wpQuiet_nil ?_
        rintro w9 ⟨⟨_, hE9⟩, rfl⟩
        clear x0 x1 x2 x3 x4 x5 c0 c1 c2 hz
        go_wp2_with fail
        go_roundw
        case rel => exact ⟨i + 1, by omega, by go_num, by rw [HS.out]; exact HO.out.ext hE9, HE.out.trans hE9⟩
        case measure => simp [intOf]; omega
    · obtain rfl : i = L.length := by omega
      have hEE := hE0.trans (HE5.out.trans HE.out)
      have HLI := HLEN.out L.length
      rw [HFUL.out] at HO HLI
      obtain ⟨q7, c7, hu7⟩ := HO.out.sl
      subst hu7
      go_wp2_with fail
      go_ret2
      exact ⟨_, rfl, HO.out.row (by omega), hEE⟩
set_option maxHeartbeats 1000000 in
theorem rsameall_any (a b : List Gr) (u v : Value) (w : World) (ha : Row Gr.cells 6 w u a) (hb : Row Gr.cells 6 w v b) :
    Calls Tryd.prog 24 #[u, v] w fun e w' => e = .returned (.bool (decide (a = b))) ∧ Ext w w' := by
  obtain ⟨p, c, rfl, hc, hl, hat⟩ := ha.gr_all
  obtain ⟨q, d, rfl, hd, hm, hat2⟩ := hb.gr_all
  have HA := hide hat
  have HB := hide hat2
  clear ha hb hat hat2
  have list_ne : ∀ i, i < b.length → a.getD i default ≠ b.getD i default → decide (a = b) = false := fun i hi h => by
    rw [decide_eq_false_iff_not]
    rintro rfl
    exact h rfl
  by_cases hlen : a.length = b.length
  · have H1 := hide list_ne
    have H2 : Hid ((∀ j, j < b.length → a.getD j default = b.getD j default) → decide (a = b) = true) := fun h => by
      rw [decide_eq_true_iff]
      apply List.ext_getElem hlen
      intro i h1 h2
      have := h i h2
      rw [List.getD_eq_getElem?_getD, List.getD_eq_getElem?_getD, List.getElem?_eq_getElem h1, List.getElem?_eq_getElem h2] at this
      exact this
    have hlen' := hlen.symm
    clear hlen list_ne
    generalize decide (a = b) = res at H1 H2 ⊢
    generalize b.length = lb at *
    generalize a.length = la at *
    subst hlen'
    generalize hfa : a.getD = fa at *
    generalize hfb : b.getD = fb at *
    clear hfa hfb
    go_enter Tryd.func24, Tryd.ntmps24
    go_wp2_with fail
    go_loopw [5] (fun x wr => ∃ i : Nat, i ≤ lb ∧ x = .int .i64 i ∧ (∀ j, j < i → fa j default = fb j default) ∧ Ext w wr) (fun x _ => lb - (intOf x).toNat)
    case atStart => exact ⟨0, by omega, rfl, fun j hj => by omega, Ext.refl _⟩
    case round =>
      obtain ⟨i, hi, rfl, hj, hE⟩ := hrel
      have HJ := hide hj
      clear hj
      by_cases hlt : i < lb
      · obtain ⟨b1, o1, rfl, hb1, hat⟩ := HA.out (by omega)
        obtain ⟨b2, o2, rfl, hb2, hat2⟩ := HB.out (by omega)
        obtain ⟨x0, x1, x2, x3, x4, x5⟩ := hat i hlt
        obtain ⟨y0, y1, y2, y3, y4, y5⟩ := hat2 i hlt
        clear hat hat2
        have HF := hide (H1.out i hlt)
        have HN : Hid (fa i default = fb i default → ∀ j, j < i + 1 → fa j default = fb j default) := fun h j hj => by
          by_cases e : j = i
          · subst e; exact h
          · exact HJ.out j (by omega)
        generalize fa i default = m at x0 x1 x2 x3 x4 x5 HF HN
        generalize fb i default = m' at y0 y1 y2 y3 y4 y5 HF HN
        have hq : geq m m' = true ↔ m = m' := geq_iff
        have HQ := hide hq
        clear hq
        obtain ⟨n, a0, b0, c0, d0, e0⟩ := m
        obtain ⟨n', a0', b0', c0', d0', e0'⟩ := m'
        have heq := neq_graph n a0 b0 c0 d0 e0 n' a0' b0' c0' d0' e0'
        dsimp only at x0 x1 x2 x3 x4 x5 y0 y1 y2 y3 y4 y5
        generalize geq ⟨n, a0, b0, c0, d0, e0⟩ ⟨n', a0', b0', c0', d0', e0'⟩ = g at heq HQ
        go_wp2_with fail
        refine wp_region_ext (by kernel_rfl) (by kernel_rfl) ?_
        repeat (go_big_quiet_step (fail))
        refine wpQuiet_nil ?_
        rintro w9 ⟨⟨_, hE9⟩, rfl⟩
        clear heq
        cases g
        · have HR := hide (HF.out (fun h => by have := HQ.out.2 h; cases this))
          go_wp2
          go_ret
          exact ⟨ret_bool HR.out.symm, hE.trans hE9⟩
        · have HR := hide (HN.out (HQ.out.1 rfl))
          go_wp2
          go_roundw
          case rel => exact ⟨i + 1, by omega, by go_num, HR.out, hE.trans hE9⟩
          case measure => simp [intOf]; omega
      · obtain rfl : i = lb := by omega
        have HR := hide (H2.out HJ.out)
        go_wp2_with fail
        go_ret
        exact ⟨ret_bool HR.out.symm, hE⟩
  · have hne : decide (a = b) = false := decide_eq_false (fun h => hlen (by rw [h]))
    rw [hne]
    have hb : ((a.length : Int) != (b.length : Int)) = true := by simp; omega
    clear hlen hne list_ne
    go_enter Tryd.func24, Tryd.ntmps24
    go_wp2_with fail
    go_ret
    exact ⟨rfl, Ext.refl _⟩
end Go.Proofs.YthpccmmdkbjjhaaDoor
