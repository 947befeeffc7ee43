/-
  The program's Task (condition).
  Conditions: as each theorem states.
-/
import Derived.Test.YthkididgbaamcaaGreatDoorTaskC
namespace Go.Proofs.YthkididgbaamcaaGreatDoor
open Go.RowKit
attribute [local go_sem] Oper.semAt_some

/-- The errors of a declaration's conditions. -/
def errD (d : Dc) : Nat → Int
  | 0 => givenS d.wh 1
  | 1 => condS d.al 3
  | _ => givenS d.ca 3
theorem sizes_two {n a b : Int} (h : sizesS n [a, b] = 0) : 1 ≤ n ∧ n ≤ 5 ∧ 1 ≤ a ∧ a ≤ 8 ∧ 1 ≤ b ∧ b ≤ 8 := by
  unfold sizesS sizeB at h
  by_cases h1 : n < 1 ∨ 5 < n ∨ ([a, b].any fun v => decide (v < 1) || decide (8 < v)) = true
  · rw [if_pos h1] at h; exact absurd h (by decide)
  · simp only [List.any_cons, List.any_nil, Bool.or_false, Bool.or_eq_true, decide_eq_true_eq, not_or] at h1
    omega
theorem sizes_ok {n a : Int} (h1 : 1 ≤ n) (h2 : n ≤ 5) (h3 : 1 ≤ a) (h4 : a ≤ 8) : sizesS n [a] = 0 := by
  rw [sizesS_one, if_neg (by omega)]
theorem sizes_val {n : Int} {l : List Int} (h : sizesS n l ≠ 0) : sizesS n l = 2 := by
  unfold sizesS at h ⊢
  by_cases h1 : n < 1 ∨ 5 < n ∨ l.any sizeB = true
  · rw [if_pos h1]
  · rw [if_neg h1] at h; exact absurd rfl h
theorem row_two (w : World) (x y : Int) : Row icells 1 (w.alloc (.cells #[.int .i64 x, .int .i64 y] 3)) (.slice (some ⟨w.heap.size, 0, none⟩) 2 2) [x, y] := by
  refine ⟨_, _, rfl, Nat.le_refl _, by simp, fun _ => ⟨w.heap.size, 0, rfl, by simp, fun i z hz j u hu => ?_⟩⟩
  match i, hz with
  | 0, hz =>
    simp only [List.getElem?_cons_zero, Option.some.injEq] at hz
    subst hz
    match j, hu with
    | 0, hu => simp at hu; subst hu; rw [cell_new]; rfl
    | _ + 1, hu => simp at hu
  | 1, hz =>
    simp only [List.getElem?_cons_succ, List.getElem?_cons_zero, Option.some.injEq] at hz
    subst hz
    match j, hu with
    | 0, hu => simp at hu; subst hu; rw [cell_new]; rfl
    | _ + 1, hu => simp at hu
  | _ + 2, hz => simp at hz
abbrev DCells (s : ByteArray) (d : Dc) (p1 : Option Addr) (c1 : Nat) (p2 : Option Addr) (c2 : Nat) (p3 : Option Addr) (c3 : Nat) : Array Value :=
  #[.string s, .int .i64 d.ins, .int .i64 d.outs, .int .i64 d.wh.op, .int .i64 d.wh.num, .slice p1 d.wh.args.length c1, .int .i64 d.al.op, .int .i64 d.al.num, .slice p2 d.al.args.length c2, .int .i64 d.ca.op, .int .i64 d.ca.num, .slice p3 d.ca.args.length c3]
set_option maxRecDepth 100000 in
set_option maxHeartbeats 4000000 in
theorem ptask_sizes (n : Int) (d : Dc) (s : ByteArray) (p1 : Option Addr) (c1 : Nat) (p2 : Option Addr) (c2 : Nat) (p3 : Option Addr) (c3 : Nat) (w : World) (h1 : sizesS n [d.ins, d.outs] ≠ 0) :
    Calls Tryz.prog 9 #[.int .i64 n, .agg (DCells s d p1 c1 p2 c2 p3 c3)] w (RetV2 (fun u w' => TkAt w' u .zero) 2 w) := by
  have h2 := sizes_val h1
  have HSZ := hide (fun W u (hl : Row icells 1 W u [d.ins, d.outs]) => sizes_any n [d.ins, d.outs] u W hl)
  rw [h2] at HSZ
  obtain ⟨w2, hw2⟩ : ∃ w2, (w.alloc (.cells (DCells s d p1 c1 p2 c2 p3 c3) 38)).alloc (.cells #[.int .i64 0, .int .i64 0, .int .i64 0, .slice none 0 0] 33) = w2 := ⟨_, rfl⟩
  have hE2 : Ext w w2 := by rw [← hw2]; exact ((Ext.refl w).alloc _).alloc _
  have hb0 : w2.heap[w.heap.size + 1]? = some (.cells #[.int .i64 0, .int .i64 0, .int .i64 0, .slice none 0 0] 33 (0, 0)) := by
    rw [← hw2]; have := heap_alloc_new (w.alloc (.cells (DCells s d p1 c1 p2 c2 p3 c3) 38)) (.cells #[.int .i64 0, .int .i64 0, .int .i64 0, .slice none 0 0] 33)
    rwa [World.size_alloc] at this
  have HROW : Hid (Row icells 1 (w2.alloc (.cells #[.int .i64 d.ins, .int .i64 d.outs] 3)) (.slice (some ⟨w.heap.size + 1 + 1, 0, none⟩) 2 2) [d.ins, d.outs]) := by
    have := row_two w2 d.ins d.outs
    rw [show w2.heap.size = w.heap.size + 1 + 1 by rw [← hw2]; simp] at this
    exact this
  have HE3 : Hid (Ext w2 (w2.alloc (.cells #[.int .i64 d.ins, .int .i64 d.outs] 3))) := (Ext.refl _).alloc _
  have HW2 := hide hw2
  have HB0 := hide hb0
  clear hw2 hb0 h1 h2
  go_enter Tryz.func9, Tryz.ntmps9
  go_wp2_with fail
  rw [HW2.out]
  refine (HSZ.out _ _ HROW.out).mono ?_
  rintro e' w4 ⟨rfl, hE4⟩
  have hE24 := HE3.out.trans hE4
  have hT4 : TBox w4 (w.heap.size + 1) (.int .i64 0) (.int .i64 0) (.int .i64 0) (.slice none 0 0) := TBox.ext HB0.out hE24
  obtain ⟨t0, t1, t2, t3⟩ := hT4.cells
  obtain ⟨f0, f1, f2, f3⟩ := hT4.frozen
  have HT4 := hide hT4
  clear hT4
  go_wp2_with fail
  exact leave_task rfl rfl rfl rfl (HT4.out.store _ _ _ _) ⟨_, rfl, TkAt.zero _, ext_store4 (hE2.trans hE24) (by omega) _ _ _ _⟩
/-- The input vectors of a task. -/
def inL (N Mi : Nat) (wh : Ex) : List (List Int) := (vecs Mi N).filter (holdIn N wh)
theorem inL_at {N Mi : Nat} {wh : Ex} (hm : 1 ≤ Mi) (hm8 : Mi ≤ 8) {k : Nat} (hk : k < (inL N Mi wh).length) : ((inL N Mi wh).getD k []).length = N ∧ ((inL N Mi wh).getD k []).any outBad = false := by
  have hm1 : (inL N Mi wh).getD k [] ∈ vecs Mi N := by
    rw [List.getD_eq_getElem?_getD, List.getElem?_eq_getElem hk]
    exact (List.mem_filter.1 (List.getElem_mem hk)).1
  rw [vecs_map] at hm1
  obtain ⟨i, _, hi⟩ := List.mem_map.1 hm1
  rw [← hi]
  refine ⟨dig_len _ _ _, ?_⟩
  rw [List.any_eq_false]
  intro x hx
  have := dig_bd Mi (by omega) N i x hx
  unfold outBad
  simp only [Bool.or_eq_true, decide_eq_true_eq, not_or]
  omega
theorem holdsB_truth {s : Sc} {e : Ex} (h : absentE e = false) : holdsB s e = truthB s e := by unfold holdsB; rw [h, Bool.false_or]
/-- What Task returns behind its sizes. -/
theorem taskS_cases {N Mi Mo : Nat} {wh al ca : Ex} (h1 : 1 ≤ N) (h5 : N ≤ 5) (ha : 1 ≤ Mi) (ha8 : Mi ≤ 8) (hb : 1 ≤ Mo) (hb8 : Mo ≤ 8) :
    (∀ i, i < 3 → (∀ j, j < i → errD ⟨Mi, Mo, wh, al, ca⟩ j = 0) → errD ⟨Mi, Mo, wh, al, ca⟩ i ≠ 0 → taskS N ⟨Mi, Mo, wh, al, ca⟩ = (.zero, errD ⟨Mi, Mo, wh, al, ca⟩ i)) ∧
    ((∀ j, j < 3 → errD ⟨Mi, Mo, wh, al, ca⟩ j = 0) → inL N Mi wh = [] → taskS N ⟨Mi, Mo, wh, al, ca⟩ = (.zero, 16)) ∧
    ((∀ j, j < 3 → errD ⟨Mi, Mo, wh, al, ca⟩ j = 0) → ∀ k, k < (inL N Mi wh).length → caseBad ⟨Mi, Mo, wh, al, ca⟩ (caseS N Mo ⟨Mi, Mo, wh, al, ca⟩ ((inL N Mi wh).getD k [])) = true → taskS N ⟨Mi, Mo, wh, al, ca⟩ = (.zero, 16)) ∧
    ((∀ j, j < 3 → errD ⟨Mi, Mo, wh, al, ca⟩ j = 0) → inL N Mi wh ≠ [] → (∀ k, k < (inL N Mi wh).length → caseBad ⟨Mi, Mo, wh, al, ca⟩ (caseS N Mo ⟨Mi, Mo, wh, al, ca⟩ ((inL N Mi wh).getD k [])) = false) →
      taskS N ⟨Mi, Mo, wh, al, ca⟩ = (⟨N, Mi, Mo, (inL N Mi wh).map (caseS N Mo ⟨Mi, Mo, wh, al, ca⟩)⟩, 0)) := by
  have hs : sizesS (N : Int) [(Mi : Int), (Mo : Int)] = 0 := by
    unfold sizesS sizeB
    rw [if_neg]
    simp only [List.any_cons, List.any_nil, Bool.or_false, Bool.or_eq_true, decide_eq_true_eq]
    omega
  have hin : givenS wh 1 = 0 → (inpS (N : Int) (Mi : Int) wh).1 = inL N Mi wh := fun hg => by
    unfold inpS
    rw [if_neg (by rw [sizes_ok (by omega) (by omega) (by omega) (by omega)]; decide), if_neg (by rw [hg]; decide), Int.toNat_natCast, Int.toNat_natCast]
    rfl
  have all3 : (∀ j, j < 3 → errD ⟨Mi, Mo, wh, al, ca⟩ j = 0) → givenS wh 1 = 0 ∧ condS al 3 = 0 ∧ givenS ca 3 = 0 := fun h => ⟨h 0 (by decide), h 1 (by decide), h 2 (by decide)⟩
  unfold taskS
  dsimp only
  rw [if_neg (by rw [hs]; decide)]
  simp only [Int.toNat_natCast]
  refine ⟨fun i hi hj he => ?_, fun h hl => ?_, fun h k hk hbad => ?_, fun h hl hgood => ?_⟩
  · match i, hi with
    | 0, _ => rw [if_pos (show givenS wh 1 ≠ 0 from he)]; rfl
    | 1, _ =>
      have h0 : givenS wh 1 = 0 := hj 0 (by decide)
      rw [if_neg (by rw [h0]; decide), if_pos (show condS al 3 ≠ 0 from he)]; rfl
    | 2, _ =>
      have h0 : givenS wh 1 = 0 := hj 0 (by decide)
      have h1 : condS al 3 = 0 := hj 1 (by decide)
      rw [if_neg (by rw [h0]; decide), if_neg (by rw [h1]; decide), if_pos (show givenS ca 3 ≠ 0 from he)]; rfl
  all_goals
    obtain ⟨g0, g1, g2⟩ := all3 h
    rw [if_neg (by rw [g0]; decide), if_neg (by rw [g1]; decide), if_neg (by rw [g2]; decide), hin g0]
  · rw [if_pos hl]
  · have hne : inL N Mi wh ≠ [] := fun h => by rw [h] at hk; exact absurd hk (Nat.not_lt_zero _)
    rw [if_neg hne, if_pos]
    refine List.any_eq_true.2 ⟨_, ?_, hbad⟩
    rw [List.getD_eq_getElem?_getD, List.getElem?_eq_getElem hk]; exact List.getElem_mem hk
  · rw [if_neg hl, if_neg]
    intro h9
    obtain ⟨x, hx, hb⟩ := List.any_eq_true.1 h9
    obtain ⟨k, hk, rfl⟩ := List.mem_iff_getElem.1 hx
    have := hgood k hk
    rw [List.getD_eq_getElem?_getD, List.getElem?_eq_getElem hk] at this
    exact absurd hb (by rw [show ((inL N Mi wh)[k] : List Int) = ((some (inL N Mi wh)[k]).getD []) from rfl, this]; decide)
def selL (P : List Int → Bool) (L : List (List Int)) (j : Nat) : List (List Int) := (L.take j).filter P
theorem selL_yes {P : List Int → Bool} {L : List (List Int)} {j : Nat} (h : j < L.length) (hp : P (L.getD j []) = true) : selL P L (j + 1) = selL P L j ++ [L.getD j []] := by
  rw [List.getD_eq_getElem?_getD, List.getElem?_eq_getElem h] at hp ⊢
  unfold selL; rw [List.take_succ_eq_append_getElem h, List.filter_append]; simp at hp; simp [hp]
theorem selL_no {P : List Int → Bool} {L : List (List Int)} {j : Nat} (h : j < L.length) (hp : P (L.getD j []) = false) : selL P L (j + 1) = selL P L j := by
  rw [List.getD_eq_getElem?_getD, List.getElem?_eq_getElem h] at hp
  unfold selL; rw [List.take_succ_eq_append_getElem h, List.filter_append]; simp at hp; simp [hp]
theorem selL_len (P : List Int → Bool) (L : List (List Int)) (j : Nat) : (selL P L j).length ≤ j := by
  unfold selL; exact Nat.le_trans (List.length_filter_le _ _) (by rw [List.length_take]; omega)
theorem selL_full (P : List Int → Bool) (L : List (List Int)) : selL P L L.length = L.filter P := by unfold selL; rw [List.take_of_length_le (Nat.le_refl _)]
set_option maxRecDepth 100000 in
set_option maxHeartbeats 8000000 in
theorem ptask_main (N Mi Mo : Nat) (wh al ca : Ex) (s : ByteArray) (p1 : Option Addr) (c1 : Nat) (p2 : Option Addr) (c2 : Nat) (p3 : Option Addr) (c3 : Nat) (w : World) (h1 : 1 ≤ N) (h5 : N ≤ 5) (ha : 1 ≤ Mi) (ha8 : Mi ≤ 8) (hb : 1 ≤ Mo) (hb8 : Mo ≤ 8)
    (hf1 : Mi ^ N ≤ 1024) (hf2 : Mo ^ N ≤ 1024) (hT : Tab w) (hn1 : wh.nodes ≤ 100000) (hn2 : al.nodes ≤ 100000) (hn3 : ca.nodes ≤ 100000)
    (hx1 : ExAt w (.agg #[.int .i64 wh.op, .int .i64 wh.num, .slice p1 wh.args.length c1]) wh) (hx2 : ExAt w (.agg #[.int .i64 al.op, .int .i64 al.num, .slice p2 al.args.length c2]) al) (hx3 : ExAt w (.agg #[.int .i64 ca.op, .int .i64 ca.num, .slice p3 ca.args.length c3]) ca) :
    Calls Tryz.prog 9 #[.int .i64 N, .agg (DCells s ⟨Mi, Mo, wh, al, ca⟩ p1 c1 p2 c2 p3 c3)] w (RetV2 (fun u w' => TkAt w' u (taskS N ⟨Mi, Mo, wh, al, ca⟩).1) (taskS N ⟨Mi, Mo, wh, al, ca⟩).2 w) := by
  obtain ⟨r1, r2, r3, r4⟩ := taskS_cases (wh := wh) (al := al) (ca := ca) h1 h5 ha ha8 hb hb8
  have R1 := hide r1
  have R2 := hide r2
  have R3 := hide r3
  have R4 := hide r4
  clear r1 r2 r3 r4
  have hs : sizesS (N : Int) [(Mi : Int), (Mo : Int)] = 0 := by
    unfold sizesS sizeB
    rw [if_neg]
    simp only [List.any_cons, List.any_nil, Bool.or_false, Bool.or_eq_true, decide_eq_true_eq]
    omega
  have HSZ := hide (fun W u (hl : Row icells 1 W u [(Mi : Int), (Mo : Int)]) => sizes_any N [(Mi : Int), (Mo : Int)] u W hl)
  rw [hs] at HSZ
  clear hs
  have HC1 := hide (fun g W (hW : Ext w W) hd => task1_any ⟨Mi, Mo, wh, al, ca⟩ (.string s) g W (hT.ext hW) hd hn1)
  have HC2 := hide (fun g W (hW : Ext w W) hd => task2_any ⟨Mi, Mo, wh, al, ca⟩ (.string s) g W (hT.ext hW) hd hn2)
  have HC3 := hide (fun g W (hW : Ext w W) hd => task3_any ⟨Mi, Mo, wh, al, ca⟩ (.string s) g W (hT.ext hW) hd hn3)
  have HINP : Hid (givenS wh 1 = 0 → ∀ W, Ext w W → Calls Tryz.prog 29 #[.int .i64 N, .int .i64 Mi, .agg #[.int .i64 wh.op, .int .i64 wh.num, .slice p1 wh.args.length c1]] W (RetV2 (fun u w' => Coll 45 3 icells 1 w' W.heap.size u (inL N Mi wh)) 0 W)) := fun hg W hW => by
    have h := pinputs_any N Mi wh _ W (hT.ext hW) (hx1.ext hW) hn1 (fun _ _ _ _ => by rw [Int.toNat_natCast, Int.toNat_natCast]; exact hf1)
    have e : inpS (N : Int) (Mi : Int) wh = (inL N Mi wh, 0) := by
      unfold inpS
      rw [if_neg (by rw [sizes_ok (by omega) (by omega) (by omega) (by omega)]; decide), if_neg (by rw [hg]; decide), Int.toNat_natCast, Int.toNat_natCast]; rfl
    rw [e] at h
    exact h
  have HOUT : Hid (condS al 3 = 0 → ∀ W (l : List Int) u, Ext w W → l.length = N → l.any outBad = false → Row icells 1 W u l → Calls Tryz.prog 30 #[.int .i64 N, .int .i64 Mo, u, .agg #[.int .i64 al.op, .int .i64 al.num, .slice p2 al.args.length c2]] W (RetV2 (fun u w' => Coll 45 3 icells 1 w' W.heap.size u ((vecs Mo N).filter (holdOut N l al))) 0 W)) := fun hg W l u hW hll hbad hr => by
    have h := poutputs_any N Mo l al u _ W (hT.ext hW) hr (hx2.ext hW) hn2 (fun _ _ _ _ => by rw [Int.toNat_natCast, Int.toNat_natCast]; exact hf2)
    have e : outS (N : Int) (Mo : Int) l al = ((vecs Mo N).filter (holdOut N l al), 0) := by
      unfold outS
      rw [if_neg (by rw [sizes_ok (by omega) (by omega) (by omega) (by omega)]; decide), if_neg (by rw [hll]; simp), if_neg (by rw [hbad]; decide), if_neg, Int.toNat_natCast, Int.toNat_natCast]
      unfold givenS
      split <;> simp [hg]
    rw [e] at h
    exact h
  have HABS := hide (fun W (hW : Ext w W) => absent_any ca _ W (hx3.ext hW))
  have HTRU := hide (fun W (hW : Ext w W) (li l : List Int) ui u (hi : Row icells 1 W ui li) (ho : Row icells 1 W u l) hs => ptruth_ex ⟨N, li, l, gz⟩ hs ca _ (.agg #[.int .i64 N, ui, u, .int .i64 0, .int .i64 0, .int .i64 0, .int .i64 0, .int .i64 0, .slice none 0 0]) W (hT.ext hW) (hx3.ext hW) hn3 ⟨_, _, _, rfl, hi, ho, Row.nil _ _ _⟩)
  have HLA := hide (fun k (hk : k < (inL N Mi wh).length) => inL_at ha ha8 hk)
  have HLL : Hid ((inL N Mi wh).length ≤ 1024) := by
    refine Nat.le_trans (List.length_filter_le _ _) ?_
    rw [vecs_len]; exact hf1
  have HBN := hide (And.intro h1 (And.intro h5 (And.intro hb (And.intro hb8 hf2))))
  obtain ⟨w2, hw2⟩ : ∃ w2, (w.alloc (.cells (DCells s ⟨Mi, Mo, wh, al, ca⟩ p1 c1 p2 c2 p3 c3) 38)).alloc (.cells #[.int .i64 0, .int .i64 0, .int .i64 0, .slice none 0 0] 33) = w2 := ⟨_, rfl⟩
  have hE2 : Ext w w2 := by rw [← hw2]; exact ((Ext.refl w).alloc _).alloc _
  have hb0 : TBox w2 (w.heap.size + 1) (.int .i64 0) (.int .i64 0) (.int .i64 0) (.slice none 0 0) := by
    rw [← hw2]; have := heap_alloc_new (w.alloc (.cells (DCells s ⟨Mi, Mo, wh, al, ca⟩ p1 c1 p2 c2 p3 c3) 38)) (.cells #[.int .i64 0, .int .i64 0, .int .i64 0, .slice none 0 0] 33)
    rwa [World.size_alloc] at this
  have hbd : DeclBox w2 w.heap.size (.string s) ⟨Mi, Mo, wh, al, ca⟩ := by
    refine ⟨p1, c1, p2, c2, p3, c3, ?_, hx1.ext hE2, hx2.ext hE2, hx3.ext hE2⟩
    rw [← hw2]; exact (Below.heap_alloc _ _ _ (by simp)).trans (heap_alloc_new w _)
  have HD0 : Hid (w2.heap[w.heap.size]? = some (.cells (DCells s ⟨Mi, Mo, wh, al, ca⟩ p1 c1 p2 c2 p3 c3) 38 (0, 0))) := by
    show _ = _
    rw [← hw2]; exact (Below.heap_alloc _ _ _ (by simp)).trans (heap_alloc_new w _)
  have HROW : Hid (Row icells 1 (w2.alloc (.cells #[.int .i64 Mi, .int .i64 Mo] 3)) (.slice (some ⟨w.heap.size + 1 + 1, 0, none⟩) 2 2) [(Mi : Int), (Mo : Int)]) := by
    have := row_two w2 Mi Mo
    rw [show w2.heap.size = w.heap.size + 1 + 1 by rw [← hw2]; simp] at this
    exact this
  have HE3 : Hid (Ext w2 (w2.alloc (.cells #[.int .i64 Mi, .int .i64 Mo] 3))) := (Ext.refl _).alloc _
  have HW2 := hide hw2
  have HB0 := hide hb0
  have HBD := hide hbd
  have HE2 := hide hE2
  have hgz : w.heap.size + 1 < w2.heap.size := lt_of_heap hb0
  clear hw2 hb0 hbd hE2 hx1 hx2 hx3 hT hn1 hn2 hn3 hf1 hf2
  generalize taskS N ⟨Mi, Mo, wh, al, ca⟩ = res at R1 R2 R3 R4 ⊢
  have E0 : Hid (errD ⟨Mi, Mo, wh, al, ca⟩ 0 = givenS wh 1) := rfl
  have E1 : Hid (errD ⟨Mi, Mo, wh, al, ca⟩ 1 = condS al 3) := rfl
  have E2 : Hid (errD ⟨Mi, Mo, wh, al, ca⟩ 2 = givenS ca 3) := rfl
  generalize errD ⟨Mi, Mo, wh, al, ca⟩ = E at R1 R2 R3 R4 E0 E1 E2
  go_enter Tryz.func9, Tryz.ntmps9
  go_wp2_with fail
  rw [HW2.out]
  refine (HSZ.out _ _ HROW.out).mono ?_
  rintro e' w4 ⟨rfl, hE4⟩
  have HE4 := hide (HE3.out.trans hE4)
  clear hE4
  go_wp2_with fail
  obtain ⟨wB, hwB⟩ : ∃ wB, w4.alloc (.cells #[.func (.func 23) #[] #[P0 w.heap.size], .func (.func 25) #[] #[P0 w.heap.size], .func (.func 27) #[] #[P0 w.heap.size]] 54) = wB := ⟨_, rfl⟩
  have HEB : Hid (Ext w2 wB) := by show Ext _ _; rw [← hwB]; exact HE4.out.alloc _
  have HBB : Hid (wB.heap[w4.heap.size]? = some (.cells #[.func (.func 23) #[] #[P0 w.heap.size], .func (.func 25) #[] #[P0 w.heap.size], .func (.func 27) #[] #[P0 w.heap.size]] 54 (0, 0))) := by show _ = _; rw [← hwB]; exact heap_alloc_new w4 _
  rw [hwB]
  clear hwB
  obtain ⟨gB, hgB⟩ : ∃ gB, w4.heap.size = gB := ⟨_, rfl⟩
  rw [hgB] at HBB ⊢
  clear hgB
  go_loopw [34] (fun x V => ∃ i : Nat, i ≤ 3 ∧ x = .int .i64 i ∧ Hid (∀ j, j < i → E j = 0) ∧ Hid (Ext wB V)) (fun x _ => 3 - (intOf x).toNat)
  case atStart => exact ⟨0, by omega, rfl, fun j hj => by omega, Ext.refl _⟩
  case round =>
    obtain ⟨i, hi, rfl, HJ, HE⟩ := hrel
    by_cases hlt : i < 3
    · have HE2V := hide (HEB.out.trans HE.out)
      have HDV := hide (HBD.out.ext HE2V.out)
      have HTV := hide (HB0.out.ext HE2V.out)
      have hbV : wr.heap[gB]? = some (.cells #[.func (.func 23) #[] #[P0 w.heap.size], .func (.func 25) #[] #[P0 w.heap.size], .func (.func 27) #[] #[P0 w.heap.size]] 54 (0, 0)) := (HE.out.b.block _ (lt_of_heap HBB.out)).trans HBB.out
      have hgBV := lt_of_heap hbV
      have HNX : Hid (E i = 0 → ∀ j, j < i + 1 → E j = 0) := fun h j hj => by
        by_cases e : j = i
        · subst e; exact h
        · exact HJ.out j (by omega)
      have HERR := hide (R1.out i hlt HJ.out)
      obtain rfl | rfl | rfl : i = 0 ∨ i = 1 ∨ i = 2 := by omega
      · have kf : wr.cell? ⟨gB, 0, none⟩ = some (.func (.func 23) #[] #[P0 w.heap.size]) := decl_cells hbV 0
        have HCA := hide (HC1.out _ wr (HE2.out.trans HE2V.out) HDV.out)
        rw [← show E 0 = givenS wh 1 from E0.out] at HCA
        clear hbV
        generalize hei : E 0 = ei at HNX HERR HCA
        clear hei
        go_wp2_with fail
        refine HCA.out.mono ?_
        rintro e' w5 ⟨rfl, hE5⟩
        by_cases h0 : ei = 0
        · have hd : (ei != 0) = false := by simp [h0]
          have HN := hide (HNX.out h0)
          clear h0 HERR HNX
          go_wp2_with fail
          go_roundw
          case rel => exact ⟨1, by omega, rfl, HN.out, HE.out.trans hE5⟩
          case measure => simp [intOf]
        · have hd : (ei != 0) = true := by simp [h0]
          have HR := hide (HERR.out h0)
          have HT5 := hide (HTV.out.ext hE5)
          obtain ⟨t0, t1, t2, t3⟩ := HT5.out.cells
          obtain ⟨f0, f1, f2, f3⟩ := HT5.out.frozen
          clear h0 HERR HNX
          go_wp2_with fail
          refine leave_task rfl rfl rfl rfl (HT5.out.store _ _ _ _) ?_
          rw [HR.out]
          exact ⟨_, rfl, TkAt.zero _, ext_store4 (HE2.out.trans (HE2V.out.trans hE5)) (by omega) _ _ _ _⟩
      · have kf : wr.cell? ⟨gB, 1, none⟩ = some (.func (.func 25) #[] #[P0 w.heap.size]) := decl_cells hbV 1
        have HCA := hide (HC2.out _ wr (HE2.out.trans HE2V.out) HDV.out)
        rw [← show E 1 = condS al 3 from E1.out] at HCA
        clear hbV
        generalize hei : E 1 = ei at HNX HERR HCA
        clear hei
        go_wp2_with fail
        refine HCA.out.mono ?_
        rintro e' w5 ⟨rfl, hE5⟩
        by_cases h0 : ei = 0
        · have hd : (ei != 0) = false := by simp [h0]
          have HN := hide (HNX.out h0)
          clear h0 HERR HNX
          go_wp2_with fail
          go_roundw
          case rel => exact ⟨2, by omega, rfl, HN.out, HE.out.trans hE5⟩
          case measure => simp [intOf]
        · have hd : (ei != 0) = true := by simp [h0]
          have HR := hide (HERR.out h0)
          have HT5 := hide (HTV.out.ext hE5)
          obtain ⟨t0, t1, t2, t3⟩ := HT5.out.cells
          obtain ⟨f0, f1, f2, f3⟩ := HT5.out.frozen
          clear h0 HERR HNX
          go_wp2_with fail
          refine leave_task rfl rfl rfl rfl (HT5.out.store _ _ _ _) ?_
          rw [HR.out]
          exact ⟨_, rfl, TkAt.zero _, ext_store4 (HE2.out.trans (HE2V.out.trans hE5)) (by omega) _ _ _ _⟩
      · have kf : wr.cell? ⟨gB, 2, none⟩ = some (.func (.func 27) #[] #[P0 w.heap.size]) := decl_cells hbV 2
        have HCA := hide (HC3.out _ wr (HE2.out.trans HE2V.out) HDV.out)
        rw [← show E 2 = givenS ca 3 from E2.out] at HCA
        clear hbV
        generalize hei : E 2 = ei at HNX HERR HCA
        clear hei
        go_wp2_with fail
        refine HCA.out.mono ?_
        rintro e' w5 ⟨rfl, hE5⟩
        by_cases h0 : ei = 0
        · have hd : (ei != 0) = false := by simp [h0]
          have HN := hide (HNX.out h0)
          clear h0 HERR HNX
          go_wp2_with fail
          go_roundw
          case rel => exact ⟨3, by omega, rfl, HN.out, HE.out.trans hE5⟩
          case measure => simp [intOf]
        · have hd : (ei != 0) = true := by simp [h0]
          have HR := hide (HERR.out h0)
          have HT5 := hide (HTV.out.ext hE5)
          obtain ⟨t0, t1, t2, t3⟩ := HT5.out.cells
          obtain ⟨f0, f1, f2, f3⟩ := HT5.out.frozen
          clear h0 HERR HNX
          go_wp2_with fail
          refine leave_task rfl rfl rfl rfl (HT5.out.store _ _ _ _) ?_
          rw [HR.out]
          exact ⟨_, rfl, TkAt.zero _, ext_store4 (HE2.out.trans (HE2V.out.trans hE5)) (by omega) _ _ _ _⟩
    · obtain rfl : i = 3 := by omega
      have hg0 : givenS wh 1 = 0 := by rw [← E0.out]; exact HJ.out 0 (by decide)
      have hg1 : condS al 3 = 0 := by rw [← E1.out]; exact HJ.out 1 (by decide)
      have HINP := hide (HINP.out hg0)
      have HOUT := hide (HOUT.out hg1)
      have R2 := hide (R2.out HJ.out)
      have R3 := hide (R3.out HJ.out)
      have R4 := hide (R4.out HJ.out)
      have HE2V := hide (HEB.out.trans HE.out)
      obtain ⟨wV, rfl⟩ : ∃ wV : World, wV = wr := ⟨_, rfl⟩
      have kk : ∀ j, wV.cell? ⟨w.heap.size, j, none⟩ = (DCells s ⟨Mi, Mo, wh, al, ca⟩ p1 c1 p2 c2 p3 c3)[j]? := decl_cells ((HE2V.out.b.block _ (lt_of_heap HD0.out)).trans HD0.out)
      have k1 : wV.cell? ⟨w.heap.size, 1, none⟩ = some (.int .i64 Mi) := kk 1
      have k3 : wV.cell? ⟨w.heap.size, 3, none⟩ = some (.int .i64 wh.op) := kk 3
      have k4 : wV.cell? ⟨w.heap.size, 4, none⟩ = some (.int .i64 wh.num) := kk 4
      have k5 : wV.cell? ⟨w.heap.size, 5, none⟩ = some (.slice p1 wh.args.length c1) := kk 5
      have hgV : w.heap.size < wV.heap.size := by have := HE2V.out.size; omega
      clear kk hg0 hg1 HJ R1 E0 E1 E2 HC1 HC2 HC3 HSZ HROW HBB HE4
      go_wp2_with fail
      refine (HINP.out wV (HE2.out.trans HE2V.out)).mono ?_
      rintro e' w6 ⟨u, rfl, hu, hE6⟩
      obtain ⟨q, k, rfl⟩ := hu.sl
      have HU := hide hu
      have HE26 := hide (HE2V.out.trans hE6)
      have HT6 := hide (HB0.out.ext HE26.out)
      clear hu k1 k3 k4 k5 hE6 HE2V HE hgV
      generalize hLe : inL N Mi wh = L at R2 R3 R4 HLA HLL HU ⊢
      clear hLe HINP
      by_cases hL0 : L = []
      · have hR := hide (R2.out hL0)
        have hd : ((L.length : Int) == 0) = true := by rw [hL0]; rfl
        obtain ⟨t0, t1, t2, t3⟩ := HT6.out.cells
        obtain ⟨f0, f1, f2, f3⟩ := HT6.out.frozen
        clear hL0
        go_wp2_with fail
        refine leave_task rfl rfl rfl rfl (HT6.out.store _ _ _ _) ?_
        rw [hR.out]
        exact ⟨_, rfl, TkAt.zero _, ext_store4 (HE2.out.trans HE26.out) (by omega) _ _ _ _⟩
      have HR4 := hide (R4.out hL0)
      have hLL := HLL.out
      have hLp : 0 < L.length := List.length_pos_iff.2 hL0
      have hd : ((L.length : Int) == 0) = false := by rw [beq_eq_false_iff_ne]; omega
      clear hL0 R2 R4
      have kk : ∀ j, w6.cell? ⟨w.heap.size, j, none⟩ = (DCells s ⟨Mi, Mo, wh, al, ca⟩ p1 c1 p2 c2 p3 c3)[j]? := decl_cells ((HE26.out.b.block _ (lt_of_heap HD0.out)).trans HD0.out)
      have k1 : w6.cell? ⟨w.heap.size, 1, none⟩ = some (.int .i64 Mi) := kk 1
      have k2 : w6.cell? ⟨w.heap.size, 2, none⟩ = some (.int .i64 Mo) := kk 2
      have hgV : w.heap.size < w6.heap.size := by have := HE26.out.size; omega
      clear kk
      go_wp2_with fail
      obtain ⟨w7, hw7⟩ : ∃ w7, w6.alloc (.cells #[.int .i64 N, .int .i64 Mi, .int .i64 Mo, .slice none 0 0] 33) = w7 := ⟨_, rfl⟩
      have HE7 : Hid (Ext w6 w7) := by show Ext _ _; rw [← hw7]; exact (Ext.refl _).alloc _
      have HG7 : Hid (TBox w7 w6.heap.size (.int .i64 N) (.int .i64 Mi) (.int .i64 Mo) (.slice none 0 0)) := by show TBox _ _ _ _ _ _; rw [← hw7]; exact heap_alloc_new w6 _
      rw [hw7]
      clear hw7 k1 k2 hgV hd
      obtain ⟨g12, hg12⟩ : ∃ g, w6.heap.size = g := ⟨_, rfl⟩
      have HG12 := hide hg12
      rw [hg12] at HG7 ⊢
      clear hg12
      go_loopw [72] (fun x V => ∃ i : Nat, i ≤ L.length ∧ x = .int .i64 i ∧ Hid (Ext w6 V ∧ (∃ u vs, TBox V g12 (.int .i64 N) (.int .i64 Mi) (.int .i64 Mo) u ∧ Own tenc 3 V (g12 + 1) 60 u vs ∧ vs.length = i ∧ ∀ k t, vs[k]? = some t → CaseAt V t (caseS N Mo ⟨Mi, Mo, wh, al, ca⟩ (L.getD k []))) ∧
          ∀ k, k < i → caseBad ⟨Mi, Mo, wh, al, ca⟩ (caseS N Mo ⟨Mi, Mo, wh, al, ca⟩ (L.getD k [])) = false)) (fun x _ => L.length - (intOf x).toNat)
      case atStart => exact ⟨0, by omega, rfl, HE7.out, ⟨_, [], HG7.out, Own.nil _ _ _ (fun _ => rfl), rfl, fun k t h => by simp at h⟩, fun k hk => by omega⟩
      case round =>
        clear HE7 HG7
        obtain ⟨i, hi, rfl, HJ⟩ := hrel
        by_cases hlt : i < L.length
        · obtain ⟨wv, rfl⟩ : ∃ wv : World, wv = wr := ⟨_, rfl⟩
          obtain ⟨hE6V, ⟨u, vs, hTB, hown, hvl, hcs⟩, hgood⟩ := HJ.out
          have HE6V := hide hE6V
          have HTK := hide hTB
          have HOW := hide hown
          have HVL := hide hvl
          have HCS := hide hcs
          have HGOOD := hide hgood
          obtain ⟨gL, cL, xv, hqe, hgL, hcl, hrow⟩ := (HU.out.ext hE6V).at_ hlt
          injection hqe with hq1 _ hq3
          subst hq1 hq3
          obtain ⟨hxl, hxb⟩ := HLA.out i hlt
          have HBAD := hide (R3.out i hlt)
          generalize hx : L.getD i [] = x at hrow hxl hxb HBAD
          obtain ⟨qx, cx, rfl, -⟩ := hrow.1.int_all
          have HXR := hide hrow
          have HE2V := hide (HE26.out.trans hE6V)
          have HEW := hide (HE2.out.trans HE2V.out)
          have HTB := hide (HB0.out.ext HE2V.out)
          have HXL := hide hxl
          have HXB := hide hxb
          have hg2 : w.heap.size + 1 < g12 := by have := HE26.out.size; have := HG12.out; omega
          have hg12V := lt_of_heap hTB
          have hgLV : gL < wv.heap.size := hgL
          have kk : ∀ j, wv.cell? ⟨w.heap.size, j, none⟩ = (DCells s ⟨Mi, Mo, wh, al, ca⟩ p1 c1 p2 c2 p3 c3)[j]? := decl_cells ((HE2V.out.b.block _ (lt_of_heap HD0.out)).trans HD0.out)
          have k2 : wv.cell? ⟨w.heap.size, 2, none⟩ = some (.int .i64 Mo) := kk 2
          have k6 : wv.cell? ⟨w.heap.size, 6, none⟩ = some (.int .i64 al.op) := kk 6
          have k7 : wv.cell? ⟨w.heap.size, 7, none⟩ = some (.int .i64 al.num) := kk 7
          have k8 : wv.cell? ⟨w.heap.size, 8, none⟩ = some (.slice p2 al.args.length c2) := kk 8
          have hsV : w.heap.size < wv.heap.size := by omega
          have HCC : Hid (∀ C, caseS N Mo ⟨Mi, Mo, wh, al, ca⟩ x = C → C.inp = x ∧ C.out = (vecs Mo N).filter (holdOut N x al) ∧ (absentE ca = true → C.calm = []) ∧ (absentE ca = false → C.calm = ((vecs Mo N).filter (holdOut N x al)).filter (holdOut N x ca))) := fun C hC => by
            rw [← hC]
            exact ⟨rfl, rfl, fun h => by unfold caseS; dsimp only; rw [if_pos h], fun h => by unfold caseS; dsimp only; rw [if_neg (by rw [h]; decide)]⟩
          have HOK : Hid (∀ j, j < ((vecs Mo N).filter (holdOut N x al)).length → Sc.ok ⟨N, x, ((vecs Mo N).filter (holdOut N x al)).getD j [], gz⟩ ∧ (((vecs Mo N).filter (holdOut N x al)).getD j []).length = N) := fun j hj => by
            have hm1 : ((vecs Mo N).filter (holdOut N x al)).getD j [] ∈ vecs Mo N := by
              rw [List.getD_eq_getElem?_getD, List.getElem?_eq_getElem hj]
              exact (List.mem_filter.1 (List.getElem_mem hj)).1
            have hz : ∀ z, z ∈ vecs Mo N → ∃ t, dig Mo N t = z := fun z hz => by
              rw [vecs_map] at hz
              obtain ⟨t, _, h⟩ := List.mem_map.1 hz
              exact ⟨t, h⟩
            obtain ⟨t, ht⟩ := hz _ hm1
            rw [← ht]
            exact ⟨dig_ok2 HBN.out.1 HBN.out.2.1 HBN.out.2.2.1 HBN.out.2.2.2.1 HXB.out t, dig_len _ _ _⟩
          have HOL : Hid (((vecs Mo N).filter (holdOut N x al)).length ≤ 1024) := by
            refine Nat.le_trans (List.length_filter_le _ _) ?_
            rw [vecs_len]; exact HBN.out.2.2.2.2
          have HOUTI := hide (fun W u (hW : Ext w W) (hr : Row icells 1 W u x) => HOUT.out W x u hW HXL.out HXB.out hr)
          have HHX := hide hx
          clear hE6V hTB hown hvl hcs hgood hrow hxl hxb kk hx HJ hgL
          generalize hCC : caseS N Mo ⟨Mi, Mo, wh, al, ca⟩ x = CC at HBAD
          obtain ⟨hci, hco, hca1, hca2⟩ := HCC.out CC hCC
          have HCC : Hid (caseS N Mo ⟨Mi, Mo, wh, al, ca⟩ (L.getD i []) = CC) := by show _ = _; rw [HHX.out]; exact hCC
          have HCI := hide hci
          have HCO := hide hco
          have HCA := hide hca1
          have HCA2 := hide hca2
          clear hCC hci hco hca1 hca2 HHX
          generalize (vecs Mo N).filter (holdOut N x al) = O at HCO HCA2 HOK HOL HOUTI
          go_wp2_with fail
          obtain ⟨w8, hw8⟩ : ∃ w8, wv.alloc (.cells #[.slice qx x.length cx, .slice none 0 0, .slice none 0 0] 60) = w8 := ⟨_, rfl⟩
          have hE8 : Ext wv w8 := by rw [← hw8]; exact (Ext.refl _).alloc _
          have hC8 : CBox w8 wv.heap.size (.slice qx x.length cx) (.slice none 0 0) (.slice none 0 0) := by rw [← hw8]; exact heap_alloc_new wv _
          rw [hw8]
          obtain ⟨g15, hg15⟩ : ∃ g, wv.heap.size = g := ⟨_, rfl⟩
          have HG15 := hide hg15
          rw [hg15] at hC8 ⊢
          clear hw8 hg15 k2 k6 k7 k8 hcl
          refine (HOUTI.out w8 _ (HEW.out.trans hE8) (HXR.out.1.ext hE8)).mono ?_
          rintro e' w9 ⟨o, rfl, ho, hE9⟩
          have hC9 := hC8.ext hE9
          have HE89 := hide (hE8.trans hE9)
          obtain ⟨qo, ko, rfl⟩ := ho.sl
          have HO9 := hide ho
          have HC9 := hide hC9
          obtain ⟨-, z1, -, f1, -, hz15⟩ := hC9.cells
          clear hE8 hC8 hE9 ho hC9
          go_upto_region 22 with fail
          obtain ⟨wa, hwa⟩ : ∃ wa, w9.setCell ⟨g15, 1, none⟩ (.slice qo O.length ko) = wa := ⟨_, rfl⟩
          have HCX0 : Hid (CBox wa g15 (.slice qx x.length cx) (.slice qo O.length ko) (.slice none 0 0)) := by show CBox _ _ _ _ _; rw [← hwa]; exact HC9.out.set1 _
          have HXE0 : Hid (Ext wv wa) := by show Ext _ _; rw [← hwa]; exact HE89.out.setCell (by show wv.heap.size ≤ g15; have := HG15.out; omega) _
          have HOC : Hid (Coll 45 3 icells 1 wa w8.heap.size (.slice qo O.length ko) O) := by
            have := HO9.out.stay (HC9.out.stay 1 (.slice qo O.length ko))
            rw [hwa] at this
            exact this
          rw [hwa]
          clear hwa z1 f1 hz15 HO9 HC9 HE89
          have HE2A := hide (HE2V.out.trans HXE0.out)
          have kd : Hid (∀ V, Ext w2 V → V.cell? ⟨w.heap.size, 9, none⟩ = some (.int .i64 ca.op) ∧ V.cell? ⟨w.heap.size, 10, none⟩ = some (.int .i64 ca.num) ∧ V.cell? ⟨w.heap.size, 11, none⟩ = some (.slice p3 ca.args.length c3) ∧ w.heap.size < V.heap.size) := fun V hV => by
            have hb := (hV.b.block _ (lt_of_heap HD0.out)).trans HD0.out
            exact ⟨decl_cells hb 9, decl_cells hb 10, decl_cells hb 11, lt_of_heap hb⟩
          obtain ⟨k9, k10, k11, ksz⟩ := kd.out wa HE2A.out
          go_wp2_with fail
          refine (HABS.out wa (HEW.out.trans HXE0.out)).mono ?_
          rintro e' X ⟨rfl, hEX⟩
          have HXE := hide (HXE0.out.trans hEX)
          have HXW := hide (HEW.out.trans HXE.out)
          have HCX := hide (HCX0.out.ext hEX)
          have HSTX := hide (Stay.of_ext hEX)
          have HOCX := hide (HOC.out.ext hEX)
          clear k9 k10 k11 ksz HCX0 HXE0 hEX HE2A
          obtain ⟨k9, k10, k11, ksz⟩ := kd.out X (HE2V.out.trans HXE.out)
          obtain ⟨x0, x1, x2, -, fx2, hx15⟩ := HCX.out.cells
          cases hab : absentE ca with
          | true =>
            have HABE := hide hab
            have HAB := HABS
            rw [hab] at HAB
            clear hab fx2
            have hO0 : O = [] ∨ O ≠ [] := by by_cases h : O = [] <;> simp [h]
            rcases hO0 with hO0 | hO0
            · have HBD2 : Hid (caseBad ⟨Mi, Mo, wh, al, ca⟩ CC = true) := by
                show _ = _
                unfold caseBad; rw [HCO.out, hO0]; rfl
              have hdO : ((O.length : Int) == 0) = true := by rw [hO0]; rfl
              have HR := hide (HBAD.out HBD2.out)
              have HTX := hide (HTB.out.ext HXE.out)
              obtain ⟨t0, t1, t2, t3⟩ := HTX.out.cells
              obtain ⟨f0, f1, f2, f3⟩ := HTX.out.frozen
              clear hO0
              go_wp2_with fail
              refine leave_task rfl rfl rfl rfl (HTX.out.store _ _ _ _) ?_
              rw [HR.out]
              exact ⟨_, rfl, TkAt.zero _, ext_store4 (HEW.out.trans HXE.out) (by omega) _ _ _ _⟩
            have hdO : ((O.length : Int) == 0) = false := by
              have := List.length_pos_iff.2 hO0
              rw [beq_eq_false_iff_ne]; omega
            have HON := hide hO0
            clear hO0
            have HGD : Hid (caseBad ⟨Mi, Mo, wh, al, ca⟩ CC = false) := by
              show _ = _
              unfold caseBad
              rw [HCO.out, HABE.out]
              have := List.isEmpty_eq_false_iff.2 HON.out
              rw [this]; rfl
            go_wp2_with fail
            refine (HAB.out X HXW.out).mono ?_
            rintro e' X2 ⟨rfl, hEX2⟩
            have HXE2 := hide (HXE.out.trans hEX2)
            have HCX2 := hide (HCX.out.ext hEX2)
            have HST2 := hide (HSTX.out.trans (Stay.of_ext hEX2))
            have HCL2 : Hid (Coll 45 3 icells 1 X2 0 (.slice none 0 0) ([] : List (List Int))) := Coll.nil _ _
            clear hEX2 x0 x1 x2 k9 k10 k11
            go_upto_region 33 with fail
            obtain ⟨x0, x1, x2, -, -, hx15⟩ := HCX2.out.cells
            have HTK := hide (HTK.out.ext HXE2.out)
            have HOW := hide (HOW.out.ext HXE2.out)
            obtain ⟨y0, y1, y2, y3⟩ := HTK.out.cells
            obtain ⟨-, -, -, f3⟩ := HTK.out.frozen
            obtain ⟨qu, ku, hue⟩ := HOW.out.sl
            subst hue
            have hvs : vs.length ≤ 1024 := by have := HVL.out; have := HLL.out; omega
            have hb12 : g12 + 1 ≤ X2.heap.size + 1 := by have := lt_of_heap HTK.out; omega
            have hg12z := lt_of_heap HTK.out
            clear f3
            go_wp2_with (at_builtin; refine wpList_append1 rfl (.tmp 137) (.tmp 139) 31 rfl (g12 + 1) 60 (.agg #[.slice none 0 0, .slice none 0 0, .slice none 0 0]) 3 72 Tryz.underlying31 case_info rfl (by decide) _ vs (.slice qx x.length cx, .slice qo O.length ko, .slice none 0 0) X2.heap.size rfl (HOW.out.alloc _) rfl (cell_new_t X2 (.slice qx x.length cx, .slice qo O.length ko, .slice none 0 0)) (by intro z hz; simp only [List.mem_cons, List.not_mem_nil, or_false] at hz; rcases hz with rfl | rfl | rfl <;> rfl) (by omega) (by decide) (by simp only [World.size_alloc]; exact hb12) ?_; intro v' X3 hown3 hg3 hf3; obtain ⟨g3, c3', rfl, hf3⟩ := hf3; have hne3 : g12 ≠ g3 := ne_of_form hf3 (fun j hj => by have := (HOW.out.2.lt _ hj).1; omega) (by simp only [World.size_alloc]; omega); have HT3 : Hid (TBox X3 g12 (.int .i64 N) (.int .i64 Mi) (.int .i64 Mo) (.slice qu vs.length ku)) := (hg3.block _ (by simp only [World.size_alloc]; omega) (fun he => by have := (HOW.out.2.lt g12 he.symm).1; omega)).trans ((Below.heap_alloc _ _ _ hg12z).trans HTK.out); obtain ⟨-, -, -, w3⟩ := HT3.out.cells; obtain ⟨-, -, -, f3⟩ := HT3.out.frozen; have HG3 := hide hg3; have HO3 := hide hown3; clear hg3 hown3 hf3)
            have HSX : Hid (Stay wv X3) := (Stay.of_ext HXE2.out).trans ((Stay.of_ext ((Ext.refl X2).alloc _)).trans (Stay.grown HG3.out (HOW.out.alloc _).typed (by decide) (by decide)))
            have HS4 := hide (HSX.out.trans (HT3.out.stay3 (.slice (some ⟨g3, 0, none⟩) (vs.length + 1) c3')))
            have HT4 := hide (HT3.out.set3 (.slice (some ⟨g3, 0, none⟩) (vs.length + 1) c3'))
            have HO4 : Hid (Own tenc 3 (X3.setCell ⟨g12, 3, none⟩ (.slice (some ⟨g3, 0, none⟩) (vs.length + 1) c3')) (g12 + 1) 60 (.slice (some ⟨g3, 0, none⟩) (vs.length + 1) c3') (vs ++ [(.slice qx x.length cx, .slice qo O.length ko, .slice none 0 0)])) := HO3.out.setNe (fun k hk => by
              have : g3 = k := by injection hk
              subst this
              exact fun h => hne3 h.symm) _
            have HX3 : Hid (Ext wv X3 → False ∨ True) := fun _ => .inr trivial
            have HNEW : Hid (CaseAt (X3.setCell ⟨g12, 3, none⟩ (.slice (some ⟨g3, 0, none⟩) (vs.length + 1) c3')) (.slice qx x.length cx, .slice qo O.length ko, .slice none 0 0) CC) := by
              have hst : Stay X2 (X3.setCell ⟨g12, 3, none⟩ (.slice (some ⟨g3, 0, none⟩) (vs.length + 1) c3')) := ((Stay.of_ext ((Ext.refl X2).alloc _)).trans (Stay.grown HG3.out (HOW.out.alloc _).typed (by decide) (by decide))).trans (HT3.out.stay3 _)
              refine ⟨?_, ?_, ?_⟩
              · rw [HCI.out]; exact (HXR.out.stay (Stay.of_ext HXE2.out)).stay hst
              · rw [HCO.out]; exact ((HOC.out.stay HST2.out).mono (Nat.zero_le _)).stay hst
              · rw [HCA.out HABE.out]; exact (HCL2.out).stay hst
            have HEX : Hid (Ext w6 (X3.setCell ⟨g12, 3, none⟩ (.slice (some ⟨g3, 0, none⟩) (vs.length + 1) c3'))) :=
              ((((HE6V.out.trans HXE2.out).alloc _).grown HG3.out (fun k hk => by have := (HOW.out.2.lt k hk).1; have := HG12.out; omega)).setCell (by show w6.heap.size ≤ g12; have := HG12.out; omega) _)
            clear x0 x1 x2 y0 y1 y2 y3
            go_wp2_with fail
            refine ⟨⟨i + 1, by omega, by simp, HEX.out, ⟨_, _, HT4.out, HO4.out, by rw [List.length_append, HVL.out]; rfl, fun k t ht => ?_⟩, fun k hk => ?_⟩, by simp [intOf]; omega⟩
            · by_cases hkl : k < vs.length
              · rw [List.getElem?_append_left hkl] at ht
                exact (HCS.out k t ht).stay HS4.out
              · rw [List.getElem?_append_right (by omega)] at ht
                have hk0 : k = vs.length := by
                  rcases Nat.eq_zero_or_pos (k - vs.length) with h | h
                  · omega
                  · rw [List.getElem?_eq_none (by simp; omega)] at ht; cases ht
                rw [hk0, Nat.sub_self] at ht
                simp only [List.getElem?_cons_zero, Option.some.injEq] at ht
                rw [← ht, show L.getD k [] = L.getD i [] by rw [hk0, HVL.out], HCC.out]
                exact HNEW.out
            · rcases Nat.lt_or_ge k i with h | h
              · exact HGOOD.out k h
              · rw [show k = i by omega, HCC.out]; exact HGD.out
          | false =>
            have HABE := hide hab
            have HAB := HABS
            rw [hab] at HAB
            have HCAL := hide (HCA2.out hab)
            have HPT : Hid (∀ y, truthB ⟨N, x, y, gz⟩ ca = holdOut N x ca y) := fun y => (holdsB_truth hab).symm
            have HSF := hide (selL_full (holdOut N x ca) O)
            have HSY := hide (fun j => selL_yes (P := holdOut N x ca) (L := O) (j := j))
            have HSN := hide (fun j => selL_no (P := holdOut N x ca) (L := O) (j := j))
            have HSL := hide (selL_len (holdOut N x ca) O)
            have HS0 : Hid (selL (holdOut N x ca) O 0 = []) := rfl
            clear hab HCA HCA2
            generalize hCL : O.filter (holdOut N x ca) = CL at HCAL HSF
            generalize selL (holdOut N x ca) O = sel at HSF HSY HSN HSL HS0
            clear hCL HOCX
            have hOL := HOL.out
            have hzX : wa.heap.size ≤ X.heap.size := HSTX.out.size
            have HG15X := hide hx15
            clear k9 k10 k11 ksz x0 x2 fx2
            go_wp2_with fail
            clear x1
            have HZX := hide hzX
            go_loopw [100] (fun t Y => ∃ j : Nat, j ≤ O.length ∧ t = .int .i64 j ∧ Hid (Ext wv Y ∧ Stay wa Y ∧ ∃ cu, CBox Y g15 (.slice qx x.length cx) (.slice qo O.length ko) cu ∧ Coll 45 3 icells 1 Y X.heap.size cu (sel j)) ∧ Hid (X.heap.size ≤ Y.heap.size)) (fun t _ => O.length - (intOf t).toNat)
            case atStart => exact ⟨0, by omega, rfl, ⟨HXE.out, HSTX.out, _, HCX.out, by rw [HS0.out]; exact Coll.nil _ _⟩, Nat.le_refl _⟩
            case round =>
              obtain ⟨Y, rfl⟩ : ∃ Y : World, Y = wr := ⟨_, rfl⟩
              clear HCX HSTX HXE hx15
              obtain ⟨j, hj, rfl, HI, HZY⟩ := hrel
              by_cases hlt3 : j < O.length
              · obtain ⟨hEY, hSY, cu, hCY, hcoll⟩ := HI.out
                obtain ⟨go, ko', yv, hqe, hgo, hcl, hrow⟩ := (HOC.out.stay hSY).at_ hlt3
                injection hqe with hq1 _ hq3
                subst hq1 hq3
                obtain ⟨hok, hyl⟩ := HOK.out j hlt3
                have HYJ := hide (HSY.out j hlt3)
                have HNJ := hide (HSN.out j hlt3)
                have HLJ := hide (HSL.out j)
                generalize O.getD j [] = y at hrow hok hyl HYJ HNJ
                obtain ⟨⟨py, cy, rfl, hyc, hyc2, hyp⟩, hyt⟩ := hrow
                obtain ⟨by_, oy, rfl, hbyz, hyat⟩ := hyp (by rw [hyl]; have := HBN.out.1; omega)
                have HYR : Hid (RowE 3 icells 1 Y (.slice (some ⟨by_, oy, none⟩) y.length cy) y) := ⟨⟨_, _, rfl, hyc, hyc2, fun _ => ⟨_, _, rfl, hbyz, hyat⟩⟩, hyt⟩
                have HEY := hide hEY
                have HSY2 := hide hSY
                have HCY := hide hCY
                have HCO2 := hide hcoll
                have HYL := hide hyl
                obtain ⟨k9, k10, k11, ksz⟩ := kd.out Y (HE2V.out.trans hEY)
                have HTR := hide (HTRU.out Y (HEW.out.trans hEY) x y _ _ ((HXR.out.stay (Stay.of_ext hEY)).1) HYR.out.1 hok)
                rw [HPT.out y] at HTR
                clear hEY hSY hCY hcoll hok hyl hyc hyc2 hyt hyat hbyz
                go_wp2_with fail
                refine HTR.out.mono ?_
                rintro e' Y2 ⟨rfl, hE2⟩
                have HEY2 := hide (HEY.out.trans hE2)
                have HZY2 := hide (Nat.le_trans HZY.out hE2.size)
                have HSY3 := hide (HSY2.out.trans (Stay.of_ext hE2))
                have HCY2 := hide (HCY.out.ext hE2)
                have HCO3 := hide (HCO2.out.ext hE2)
                have HYR2 := hide (HYR.out.ext hE2)
                clear hE2 k9 k10 k11 ksz hcl HI
                cases hp : holdOut N x ca y with
                | false =>
                  have HS := hide (HNJ.out hp)
                  clear hp HYJ HNJ
                  go_wp2_with fail
                  refine ⟨⟨j + 1, by omega, by simp, ⟨HEY2.out, HSY3.out, cu, HCY2.out, by rw [HS.out]; exact HCO3.out⟩, HZY2.out⟩, by simp [intOf]; omega⟩
                | true =>
                  have HS := hide (HYJ.out hp)
                  clear hp HYJ HNJ
                  obtain ⟨qc, kc, rfl⟩ := HCO3.out.sl
                  go_wp2_with fail
                  have hg15 := lt_of_heap HCY2.out
                  obtain ⟨-, -, xx2, -, -, -⟩ := HCY2.out.cells
                  have HXX := hide xx2
                  clear xx2
                  refine wp_region_heldB (fun V => V.heap[g15]? = Y2.heap[g15]?) (fun j => j == 7) (by kernel_rfl) ?_
                  intro Y3 hY3
                  have hE3 : Ext Y2 Y3 := by rw [hY3]; exact (Ext.refl Y2).drew
                  clear hY3
                  have hS3 := hE3.b.block _ hg15
                  refine wpAnyT_takeB (i := 0) (.pointer (some ⟨g15, 2, none⟩)) rfl (by kernel_rfl) (fun j hj => ?_) (by kernel_rfl) (by kernel_rfl) (by simp [Region.wanted]) (fun V hV => by go_simp) hS3 ?_
                  · obtain rfl : j = 7 := by simpa using hj
                    kernel_rfl
                  try simp only [Act.put, List.getElem_toArray, List.getElem_cons_zero, List.setIfInBounds_toArray, List.set_cons_zero, List.set_cons_succ]
                  refine wpAnyT_takeB (i := 1) (.slice qc (sel j).length kc) rfl (by kernel_rfl) (fun j hj => ?_) (by kernel_rfl) (by kernel_rfl) (by simp [Region.wanted]) (fun V hV => by
                    have hx := (World.cell?_of_block (a := ⟨g15, 2, none⟩) hV).trans HXX.out
                    go_simp) hS3 ?_
                  · obtain rfl : j = 7 := by simpa using hj
                    kernel_rfl
                  try simp only [Act.put, List.getElem_toArray, List.getElem_cons_zero, List.getElem_cons_succ, List.setIfInBounds_toArray, List.set_cons_zero, List.set_cons_succ]
                  refine wpAnyT_takeB (i := 2) (.slice (some ⟨by_, oy, none⟩) y.length cy) rfl (by kernel_rfl) (fun j hj => ?_) (by kernel_rfl) (by kernel_rfl) (by simp [Region.wanted]) (fun V hV => by go_simp) hS3 ?_
                  · obtain rfl : j = 7 := by simpa using hj
                    kernel_rfl
                  try simp only [Act.put, List.getElem_toArray, List.getElem_cons_zero, List.getElem_cons_succ, List.setIfInBounds_toArray, List.set_cons_zero, List.set_cons_succ]
                  refine wpAnyT_oneB (i := 3) rfl (by kernel_rfl) (fun KK hKK => ?_)
                  go_wp2_with fail
                  refine (cloneI_any y by_ oy cy Y3 (HYR2.out.1.ext hE3) (by have := HYL.out; have := HBN.out.2.1; omega)).mono ?_
                  rintro e' Y4 ⟨⟨yv, rfl, hyv⟩, hE4⟩
                  have hE34 := hE3.trans hE4
                  have hS4 := hE34.b.block _ hg15
                  have HYV := hide (hyv.rowE (by have := HYL.out; have := HBN.out.2.1; omega))
                  obtain ⟨qv, kv, rfl⟩ := hyv.sl
                  have HE34 := hide hE34
                  have hg15' : g15 < Y4.heap.size := Nat.lt_of_lt_of_le hg15 hE34.size
                  clear hyv hE3 hE4 hE34 hS3
                  go_wp2_with fail
                  refine ⟨rfl, hKK _ _ (fun _ => hS4) ?_⟩
                  clear hKK KK
                  refine wpAnyT_oneB (i := 4) rfl (by kernel_rfl) (fun KK hKK => ?_)
                  go_wp2_with fail
                  refine ⟨rfl, hKK _ _ (fun _ => (Below.heap_alloc _ _ _ hg15').trans hS4) ?_⟩
                  clear hKK KK
                  try simp only [Act.put, List.getElem_toArray, List.getElem_cons_zero, List.getElem_cons_succ, List.setIfInBounds_toArray, List.set_cons_zero, List.set_cons_succ]
                  refine wpAnyT_oneB (i := 5) rfl (by kernel_rfl) (fun KK hKK => ?_)
                  have hlen5 : (sel j).length ≤ 1000000000000 := by have := HLJ.out; omega
                  have HCO5 := hide (HCO3.out.ext HE34.out)
                  have hbase5 : X.heap.size ≤ Y4.heap.size + 1 := by have := HE34.out.size; have := HZY2.out; omega
                  refine wpList_push rfl (.tmp 112) (.tmp 115) 56 rfl X.heap.size 45 3 1 (by decide) Tryz.underlying56 islice_info _ (sel j) _ y Y4.heap.size rfl (HCO5.out.ext ((Ext.refl _).alloc _)) rfl (cell_new1 _ _ _) (HYV.out.ext ((Ext.refl _).alloc _)) hlen5 (by simp only [World.size_alloc]; exact hbase5) ?_
                  intro v' Y5 hc5 hg5 hf5
                  obtain ⟨g5, c5, rfl, -⟩ := hf5
                  have hge5 : ∀ k, (Value.slice qc (sel j).length kc).ownBlock = some k → X.heap.size ≤ k := HCO5.out.block_ge
                  have hg15X : g15 < X.heap.size := by have := HG15X.out; omega
                  have hCY5 : CBox Y5 g15 (.slice qx x.length cx) (.slice (some ⟨go, 0, none⟩) O.length ko) (.slice qc (sel j).length kc) := (hg5.block _ (by simp only [World.size_alloc]; omega) (fun he => by have := hge5 g15 he.symm; omega)).trans ((Below.heap_alloc _ _ _ hg15').trans (hS4.trans HCY2.out))
                  have hS5 : Y5.heap[g15]? = Y2.heap[g15]? := hCY5.trans HCY2.out.symm
                  have HEY5 : Hid (Ext wv Y5) := ((HEY2.out.trans HE34.out).alloc _).grown hg5 (fun k hk => by have := hge5 k hk; have := HG15.out; omega)
                  have HSY5 : Hid (Stay wa Y5) := Stay.grownNew (HSY3.out.trans (Stay.of_ext (HE34.out.alloc _))) hg5 (fun k hk => Nat.le_trans HZX.out (hge5 k hk))
                  have HZY5 : Hid (X.heap.size ≤ Y5.heap.size) := Nat.le_trans HZY2.out (Nat.le_trans HE34.out.size (by have := hg5.size; simp only [World.size_alloc] at this; omega))
                  have HC5 := hide hc5
                  have HCY5 := hide hCY5
                  obtain ⟨-, -, z2, -, fz2, -⟩ := hCY5.cells
                  clear hc5 hg5 hge5 hCY5 hlen5 hbase5
                  go_wp2_with fail
                  refine ⟨rfl, hKK _ _ (fun _ => hS5) ?_⟩
                  clear hKK KK
                  try simp only [Act.put, List.getElem_toArray, List.getElem_cons_zero, List.getElem_cons_succ, List.setIfInBounds_toArray, List.set_cons_zero, List.set_cons_succ]
                  refine wpAnyT_oneB (i := 6) rfl (by kernel_rfl) (fun KK hKK => ?_)
                  go_wp2_with fail
                  refine ⟨rfl, hKK _ _ (fun _ => hS5) ?_⟩
                  clear hKK KK
                  try simp only [Act.put, List.getElem_toArray, List.getElem_cons_zero, List.getElem_cons_succ, List.setIfInBounds_toArray, List.set_cons_zero, List.set_cons_succ]
                  refine wpAnyT_oneB (i := 7) rfl (by kernel_rfl) (fun KK hKK => ?_)
                  go_wp2_with fail
                  refine ⟨rfl, hKK _ _ (fun h => by cases h) ?_⟩
                  clear hKK KK
                  refine wpAnyT_done (by kernel_rfl) ?_ _
                  have HCY6 := hide (HCY5.out.set2 (.slice (some ⟨g5, 0, none⟩) ((sel j).length + 1) c5))
                  have HSY6 := hide (HSY5.out.trans (HCY5.out.stay 2 (.slice (some ⟨g5, 0, none⟩) ((sel j).length + 1) c5)))
                  have HC6 := hide (HC5.out.stay (HCY5.out.stay 2 (.slice (some ⟨g5, 0, none⟩) ((sel j).length + 1) c5)))
                  clear z2 fz2
                  go_wp2_with fail
                  refine ⟨⟨j + 1, by omega, by simp, ⟨HEY5.out.setCell (by show wv.heap.size ≤ g15; have := HG15.out; omega) _, HSY6.out, _, HCY6.out, by rw [HS.out]; exact HC6.out⟩, by show X.heap.size ≤ _; simpa [World.setCell] using HZY5.out⟩, by simp [intOf]; omega⟩
              · obtain rfl : j = O.length := by omega
                obtain ⟨hEY, hSY, cu, hCY, hcoll⟩ := HI.out
                rw [HSF.out] at hcoll
                obtain ⟨qc, kc, rfl⟩ := hcoll.sl
                obtain ⟨X0, rfl⟩ : ∃ X0, X0 = X := ⟨_, rfl⟩
                obtain ⟨X, rfl⟩ : ∃ X : World, X = Y := ⟨_, rfl⟩
                have HXE := hide hEY
                have HSTX := hide hSY
                have HCX := hide hCY
                have HCLX := hide hcoll
                have HXW := hide (HEW.out.trans hEY)
                clear hEY hSY hCY hcoll HI
                obtain ⟨k9, k10, k11, ksz⟩ := kd.out X (HE2V.out.trans HXE.out)
                obtain ⟨x0, x1, x2, -, -, hx15⟩ := HCX.out.cells
                have hO0 : O = [] ∨ O ≠ [] := by by_cases h : O = [] <;> simp [h]
                rcases hO0 with hO0 | hO0
                · have HBD2 : Hid (caseBad ⟨Mi, Mo, wh, al, ca⟩ CC = true) := by
                    show _ = _
                    unfold caseBad; rw [HCO.out, hO0]; rfl
                  have hdO : ((O.length : Int) == 0) = true := by rw [hO0]; rfl
                  have HR := hide (HBAD.out HBD2.out)
                  have HTX := hide (HTB.out.ext HXE.out)
                  obtain ⟨t0, t1, t2, t3⟩ := HTX.out.cells
                  obtain ⟨f0, f1, f2, f3⟩ := HTX.out.frozen
                  clear hO0
                  go_wp2_with fail
                  refine leave_task rfl rfl rfl rfl (HTX.out.store _ _ _ _) ?_
                  rw [HR.out]
                  exact ⟨_, rfl, TkAt.zero _, ext_store4 (HEW.out.trans HXE.out) (by omega) _ _ _ _⟩
                have hdO : ((O.length : Int) == 0) = false := by
                  have := List.length_pos_iff.2 hO0
                  rw [beq_eq_false_iff_ne]; omega
                have HON := hide hO0
                clear hO0
                have hC0 : CL = [] ∨ CL ≠ [] := by by_cases h : CL = [] <;> simp [h]
                rcases hC0 with hC0 | hC0
                · have HBD2 : Hid (caseBad ⟨Mi, Mo, wh, al, ca⟩ CC = true) := by
                    show _ = _
                    unfold caseBad; rw [HABE.out, HCAL.out, hC0]; simp
                  have hdC : ((CL.length : Int) == 0) = true := by rw [hC0]; rfl
                  have HR := hide (HBAD.out HBD2.out)
                  clear hC0
                  go_wp2_with fail
                  refine (HAB.out X HXW.out).mono ?_
                  rintro e' X2 ⟨rfl, hEX2⟩
                  have HTX := hide (HTB.out.ext (HXE.out.trans hEX2))
                  have HCX2 := hide (HCX.out.ext hEX2)
                  obtain ⟨t0, t1, t2, t3⟩ := HTX.out.cells
                  obtain ⟨f0, f1, f2, f3⟩ := HTX.out.frozen
                  have HEE := hide (HXE.out.trans hEX2)
                  clear hEX2 x0 x1 x2 k9 k10 k11
                  obtain ⟨x0, x1, x2, -, -, hx15⟩ := HCX2.out.cells
                  go_wp2_with fail
                  refine leave_task rfl rfl rfl rfl (HTX.out.store _ _ _ _) ?_
                  rw [HR.out]
                  exact ⟨_, rfl, TkAt.zero _, ext_store4 (HEW.out.trans HEE.out) (by omega) _ _ _ _⟩
                have hdC : ((CL.length : Int) == 0) = false := by
                  have := List.length_pos_iff.2 hC0
                  rw [beq_eq_false_iff_ne]; omega
                have HCN := hide hC0
                clear hC0
                have HGD : Hid (caseBad ⟨Mi, Mo, wh, al, ca⟩ CC = false) := by
                  show _ = _
                  unfold caseBad
                  rw [HCO.out, HABE.out, HCAL.out]
                  have := List.isEmpty_eq_false_iff.2 HON.out
                  rw [this, List.isEmpty_eq_false_iff.2 HCN.out]; rfl
                go_wp2_with fail
                refine (HAB.out X HXW.out).mono ?_
                rintro e' X2 ⟨rfl, hEX2⟩
                have HXE2 := hide (HXE.out.trans hEX2)
                have HCX2 := hide (HCX.out.ext hEX2)
                have HST2 := hide (HSTX.out.trans (Stay.of_ext hEX2))
                have HCL2 := hide ((HCLX.out.ext hEX2).mono (Nat.zero_le _))
                clear hEX2 x0 x1 x2 k9 k10 k11
                obtain ⟨x0, x1, x2, -, -, hx15⟩ := HCX2.out.cells
                go_upto_region 33 with fail
                clear x0 x1 x2 hx15
                obtain ⟨x0, x1, x2, -, -, hx15⟩ := HCX2.out.cells
                have HTK := hide (HTK.out.ext HXE2.out)
                have HOW := hide (HOW.out.ext HXE2.out)
                obtain ⟨y0, y1, y2, y3⟩ := HTK.out.cells
                obtain ⟨-, -, -, f3⟩ := HTK.out.frozen
                obtain ⟨qu, ku, hue⟩ := HOW.out.sl
                subst hue
                have hvs : vs.length ≤ 1024 := by have := HVL.out; have := HLL.out; omega
                have hb12 : g12 + 1 ≤ X2.heap.size + 1 := by have := lt_of_heap HTK.out; omega
                have hg12z := lt_of_heap HTK.out
                clear f3
                go_wp2_with (at_builtin; refine wpList_append1 rfl (.tmp 137) (.tmp 139) 31 rfl (g12 + 1) 60 (.agg #[.slice none 0 0, .slice none 0 0, .slice none 0 0]) 3 72 Tryz.underlying31 case_info rfl (by decide) _ vs (.slice qx x.length cx, .slice qo O.length ko, .slice qc CL.length kc) X2.heap.size rfl (HOW.out.alloc _) rfl (cell_new_t X2 (.slice qx x.length cx, .slice qo O.length ko, .slice qc CL.length kc)) (by intro z hz; simp only [List.mem_cons, List.not_mem_nil, or_false] at hz; rcases hz with rfl | rfl | rfl <;> rfl) (by omega) (by decide) (by simp only [World.size_alloc]; exact hb12) ?_; intro v' X3 hown3 hg3 hf3; obtain ⟨g3, c3', rfl, hf3⟩ := hf3; have hne3 : g12 ≠ g3 := ne_of_form hf3 (fun j hj => by have := (HOW.out.2.lt _ hj).1; omega) (by simp only [World.size_alloc]; omega); have HT3 : Hid (TBox X3 g12 (.int .i64 N) (.int .i64 Mi) (.int .i64 Mo) (.slice qu vs.length ku)) := (hg3.block _ (by simp only [World.size_alloc]; omega) (fun he => by have := (HOW.out.2.lt g12 he.symm).1; omega)).trans ((Below.heap_alloc _ _ _ hg12z).trans HTK.out); obtain ⟨-, -, -, w3⟩ := HT3.out.cells; obtain ⟨-, -, -, f3⟩ := HT3.out.frozen; have HG3 := hide hg3; have HO3 := hide hown3; clear hg3 hown3 hf3)
                have HSX : Hid (Stay wv X3) := (Stay.of_ext HXE2.out).trans ((Stay.of_ext ((Ext.refl X2).alloc _)).trans (Stay.grown HG3.out (HOW.out.alloc _).typed (by decide) (by decide)))
                have HS4 := hide (HSX.out.trans (HT3.out.stay3 (.slice (some ⟨g3, 0, none⟩) (vs.length + 1) c3')))
                have HT4 := hide (HT3.out.set3 (.slice (some ⟨g3, 0, none⟩) (vs.length + 1) c3'))
                have HO4 : Hid (Own tenc 3 (X3.setCell ⟨g12, 3, none⟩ (.slice (some ⟨g3, 0, none⟩) (vs.length + 1) c3')) (g12 + 1) 60 (.slice (some ⟨g3, 0, none⟩) (vs.length + 1) c3') (vs ++ [(.slice qx x.length cx, .slice qo O.length ko, .slice qc CL.length kc)])) := HO3.out.setNe (fun k hk => by
                  have : g3 = k := by injection hk
                  subst this
                  exact fun h => hne3 h.symm) _
                have HX3 : Hid (Ext wv X3 → False ∨ True) := fun _ => .inr trivial
                have HNEW : Hid (CaseAt (X3.setCell ⟨g12, 3, none⟩ (.slice (some ⟨g3, 0, none⟩) (vs.length + 1) c3')) (.slice qx x.length cx, .slice qo O.length ko, .slice qc CL.length kc) CC) := by
                  have hst : Stay X2 (X3.setCell ⟨g12, 3, none⟩ (.slice (some ⟨g3, 0, none⟩) (vs.length + 1) c3')) := ((Stay.of_ext ((Ext.refl X2).alloc _)).trans (Stay.grown HG3.out (HOW.out.alloc _).typed (by decide) (by decide))).trans (HT3.out.stay3 _)
                  refine ⟨?_, ?_, ?_⟩
                  · rw [HCI.out]; exact (HXR.out.stay (Stay.of_ext HXE2.out)).stay hst
                  · rw [HCO.out]; exact ((HOC.out.stay HST2.out).mono (Nat.zero_le _)).stay hst
                  · rw [HCAL.out]; exact (HCL2.out).stay hst
                have HEX : Hid (Ext w6 (X3.setCell ⟨g12, 3, none⟩ (.slice (some ⟨g3, 0, none⟩) (vs.length + 1) c3'))) :=
                  ((((HE6V.out.trans HXE2.out).alloc _).grown HG3.out (fun k hk => by have := (HOW.out.2.lt k hk).1; have := HG12.out; omega)).setCell (by show w6.heap.size ≤ g12; have := HG12.out; omega) _)
                clear x0 x1 x2 y0 y1 y2 y3
                go_wp2_with fail
                refine ⟨⟨i + 1, by omega, by simp, HEX.out, ⟨_, _, HT4.out, HO4.out, by rw [List.length_append, HVL.out]; rfl, fun k t ht => ?_⟩, fun k hk => ?_⟩, by simp [intOf]; omega⟩
                · by_cases hkl : k < vs.length
                  · rw [List.getElem?_append_left hkl] at ht
                    exact (HCS.out k t ht).stay HS4.out
                  · rw [List.getElem?_append_right (by omega)] at ht
                    have hk0 : k = vs.length := by
                      rcases Nat.eq_zero_or_pos (k - vs.length) with h | h
                      · omega
                      · rw [List.getElem?_eq_none (by simp; omega)] at ht; cases ht
                    rw [hk0, Nat.sub_self] at ht
                    simp only [List.getElem?_cons_zero, Option.some.injEq] at ht
                    rw [← ht, show L.getD k [] = L.getD i [] by rw [hk0, HVL.out], HCC.out]
                    exact HNEW.out
                · rcases Nat.lt_or_ge k i with h | h
                  · exact HGOOD.out k h
                  · rw [show k = i by omega, HCC.out]; exact HGD.out
        · obtain rfl : i = L.length := by omega
          obtain ⟨hE6V, ⟨u, vs, hTB, hown, hvl, hcs⟩, hgood⟩ := HJ.out
          have HR := hide (HR4.out hgood)
          have HTV := hide (HT6.out.ext hE6V)
          obtain ⟨t0, t1, t2, t3⟩ := HTV.out.cells
          obtain ⟨f0, f1, f2, f3⟩ := HTV.out.frozen
          obtain ⟨y0, y1, y2, y3⟩ := hTB.cells
          have hsz12 := lt_of_heap hTB
          have hg2 : w.heap.size + 1 < g12 := by have := HE26.out.size; have := HG12.out; omega
          have HALL : Hid (TkAt ((((wr.setCell ⟨w.heap.size + 1, 0, none⟩ (.int .i64 N)).setCell ⟨w.heap.size + 1, 1, none⟩ (.int .i64 Mi)).setCell ⟨w.heap.size + 1, 2, none⟩ (.int .i64 Mo)).setCell ⟨w.heap.size + 1, 3, none⟩ u) (.agg #[.int .i64 N, .int .i64 Mi, .int .i64 Mo, u]) ⟨N, Mi, Mo, L.map (caseS N Mo ⟨Mi, Mo, wh, al, ca⟩)⟩) := by
            refine ⟨u, vs, rfl, by rw [hvl, List.length_map], (own_store4 hown (show w.heap.size + 1 < g12 + 1 by omega) _ _ _ _).row (by have := HLL.out; omega), fun k t c ht hc => ?_⟩
            have hkl : k < L.length := by
              rcases Nat.lt_or_ge k vs.length with h | h
              · omega
              · rw [List.getElem?_eq_none h] at ht; cases ht
            have := (hcs k t ht).stay (HTV.out.stay4 (.int .i64 N) (.int .i64 Mi) (.int .i64 Mo) u)
            rw [List.getElem?_map, List.getElem?_eq_getElem hkl] at hc
            rw [List.getD_eq_getElem?_getD, List.getElem?_eq_getElem hkl] at this
            simp only [Option.map_some, Option.some.injEq] at hc
            rw [← hc]
            exact this
          have HEE := hide (HE2.out.trans (HE26.out.trans hE6V))
          obtain ⟨qu, cu, hue⟩ := hown.sl
          subst hue
          clear hE6V hTB hown hvl hcs hgood HJ
          go_wp2_with fail
          refine leave_task rfl rfl rfl rfl (HTV.out.store _ _ _ _) ?_
          rw [HR.out]
          exact ⟨_, rfl, HALL.out, ext_store4 HEE.out (by omega) _ _ _ _⟩
theorem ptask_any (n : Int) (d : Dc) (v : Value) (w : World) (hT : Tab w) (hv : DcAt w v d) (hn1 : d.wh.nodes ≤ 100000) (hn2 : d.al.nodes ≤ 100000) (hn3 : d.ca.nodes ≤ 100000) (hf1 : fewV n d.ins) (hf2 : fewV n d.outs) :
    Calls Tryz.prog 9 #[.int .i64 n, v] w (RetV2 (fun u w' => TkAt w' u (taskS n d).1) (taskS n d).2 w) := by
  obtain ⟨s, p1, c1, p2, c2, p3, c3, rfl, h1, h2, h3⟩ := hv
  by_cases hs : sizesS n [d.ins, d.outs] ≠ 0
  · have e : taskS n d = (.zero, 2) := by unfold taskS; rw [if_pos hs]
    rw [e]
    exact ptask_sizes n d s p1 c1 p2 c2 p3 c3 w hs
  · obtain ⟨a1, a2, a3, a4, a5, a6⟩ := sizes_two (by simpa using hs)
    obtain ⟨ins, outs, wh, al, ca⟩ := d
    dsimp only at *
    obtain ⟨N, rfl⟩ := Int.eq_ofNat_of_zero_le (show 0 ≤ n by omega)
    obtain ⟨Mi, rfl⟩ := Int.eq_ofNat_of_zero_le (show 0 ≤ ins by omega)
    obtain ⟨Mo, rfl⟩ := Int.eq_ofNat_of_zero_le (show 0 ≤ outs by omega)
    have g1 := hf1 a1 a2 a3 a4
    have g2 := hf2 a1 a2 a5 a6
    rw [Int.toNat_natCast, Int.toNat_natCast] at g1 g2
    exact ptask_main N Mi Mo wh al ca s p1 c1 p2 c2 p3 c3 w (by omega) (by omega) (by omega) (by omega) (by omega) (by omega) g1 g2 hT hn1 hn2 hn3 h1 h2 h3
end Go.Proofs.YthkididgbaamcaaGreatDoor
