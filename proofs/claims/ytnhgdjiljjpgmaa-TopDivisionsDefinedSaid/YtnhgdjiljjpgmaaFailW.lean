/-
  The program's layer 17 (failure): the steps of oblivious and of Partition.
  Conditions: at most five processes.
-/
import Derived.Test.YtnhgdjiljjpgmaaFailU
import Derived.Test.YtnhgdjiljjpgmaaFailG
namespace Go.Proofs.Ytnhgdjiljjpgmaa
open Go.RowKit
attribute [local go_sem] Oper.semAt_some
attribute [local go_sem] run_store_func

theorem size_table : ((List.range 32).all fun x => x == 0 || decide (0 < sizeN x)) = true := by decide +kernel
theorem size_pos {x : Nat} (h : x < 32) (h0 : x ≠ 0) : 0 < sizeN x := by
  have t := size_table
  rw [List.all_eq_true] at t
  have t := t x (List.mem_range.2 h)
  rw [Bool.or_eq_true] at t
  rcases t with t | t
  · exact absurd (by simpa using t) h0
  · exact of_decide_eq_true t
theorem sizef_table : ((List.range 6).all fun n => decide (sizeN (fullN n) ≤ n) && decide (andNot (fullN n) 0 = fullN n) && decide (fullN n < 2 ^ n)) = true := by decide +kernel
theorem sizef {n : Nat} (h : n ≤ 5) : sizeN (fullN n) ≤ n ∧ andNot (fullN n) 0 = fullN n ∧ fullN n < 2 ^ n := by
  have t := sizef_table
  rw [List.all_eq_true] at t
  have t := t n (List.mem_range.2 (by omega))
  rw [Bool.and_eq_true, Bool.and_eq_true] at t
  exact ⟨of_decide_eq_true t.1.1, of_decide_eq_true t.1.2, of_decide_eq_true t.2⟩
theorem divG_zero (n k : Nat) (g : Gr) : divG n k 0 g = [g] := by
  cases k with
  | zero => rfl
  | succ k => simp only [divG, if_true]
theorem nextG_zero {n k seen : Nat} (h : andNot (fullN n) seen = 0) (g : Gr) : nextG n k seen g = [g] := by
  cases k with
  | zero => rfl
  | succ k => simp only [nextG, if_pos h]
theorem wpAnyT_two {P : Program} {ops : Array Oper} {md : Region.Mode} {S : World → Prop} {Q : Act → World → Prop} {B : Nat → Bool} {i j : Nat} {oi oj : Oper} {fuel : Nat} {listed : Array Bool} {a : Act} {w : World} (hr : Region.ready md ops listed = [i, j]) (hi : ops[i]? = some oi) (hj : ops[j]? = some oj)
    (h1 : ∀ K : Act → World → Prop, (∀ a' w', (B i = false → S w') → wpAnyT P md ops S B Q fuel (listed.setIfInBounds i true) a' w' → K a' w') → wpList P ops (Aft K) [oi] a w)
    (h2 : ∀ K : Act → World → Prop, (∀ a' w', (B j = false → S w') → wpAnyT P md ops S B Q fuel (listed.setIfInBounds j true) a' w' → K a' w') → wpList P ops (Aft K) [oj] a w) : wpAnyT P md ops S B Q (fuel + 1) listed a w := by
  refine ⟨fun h0 => (by rw [hr] at h0; cases h0), fun k hk => ?_⟩
  rw [hr] at hk
  rcases List.mem_cons.1 hk with rfl | hk
  · exact Aft.op hi (fun _ _ h => h) (h1 (fun a' w' => (B k = false → S w') ∧ wpAnyT P md ops S B Q fuel (listed.setIfInBounds k true) a' w') fun _ _ h1 h2 => ⟨h1, h2⟩)
  · obtain rfl : k = j := by simpa using hk
    exact Aft.op hj (fun _ _ h => h) (h2 (fun a' w' => (B k = false → S w') ∧ wpAnyT P md ops S B Q fuel (listed.setIfInBounds k true) a' w') fun _ _ h1 h2 => ⟨h1, h2⟩)
theorem div_all {n lp bz bn be : Nat} {OB : Nat → Prop} {L : List Gr} {J : Nat → (Nat → Prop) → World → Prop} {Jx : (Nat → Prop) → World → Prop} (H : IAsk n lp bn L J Jx) (hOBB : OB bz ∧ OB be) :
    ∀ k rest, rest < 2 ^ n → sizeN rest ≤ k → DGoal n lp bz bn be OB L J Jx k rest
  | 0, rest, hr, hs => by
    have h32 := pow32_le H.n5
    by_cases h0 : rest = 0
    · exact div_zero H hOBB 0 rest h0 fun g => by rw [h0]; rfl
    · have := size_pos (x := rest) (by omega) h0
      omega
  | k + 1, rest, hr, hs => by
    by_cases h0 : rest = 0
    · exact div_zero H hOBB (k + 1) rest h0 fun g => by rw [h0]; exact divG_zero n (k + 1) g
    · exact div_succ H hOBB k rest hr h0 fun r h1 h2 => div_all H hOBB k r h1 (by omega)
theorem nxt_all {n lp bz bn be : Nat} {OB : Nat → Prop} {L : List Gr} {J : Nat → (Nat → Prop) → World → Prop} {Jx : (Nat → Prop) → World → Prop} (H : IAsk n lp bn L J Jx) (hOBB : OB bz ∧ OB be) :
    ∀ k rest, rest < 2 ^ n → sizeN (andNot (fullN n) rest) ≤ k → NGoal n lp bz bn be OB L J Jx k rest
  | 0, rest, hr, hs => by
    have h32 := pow32_le H.n5
    by_cases h0 : andNot (fullN n) rest = 0
    · exact nxt_zero H hOBB 0 rest h0 (by omega) fun g => rfl
    · have := size_pos (andNot_lt (full_lt32 H.n5) (show rest < 32 by omega)) h0
      omega
  | k + 1, rest, hr, hs => by
    have h32 := pow32_le H.n5
    by_cases h0 : andNot (fullN n) rest = 0
    · exact nxt_zero H hOBB (k + 1) rest h0 (by omega) fun g => nextG_zero h0 g
    · exact nxt_succ H hOBB k rest hr h0 fun r h1 h2 => nxt_all H hOBB k r h1 (by omega)
theorem pgroups_any (n : Nat) (w : World) : Calls Try.prog 41 #[.int .i64 n] w fun e w' => e = .returned (.func (.func 61) #[] #[.pointer (some ⟨w.heap.size, 0, none⟩)]) ∧ NBox w' w.heap.size n ∧ Ext w w' := by
  go_enter Try.func41, Try.ntmps41
  go_wp2_with fail
  go_ret
  exact ⟨rfl, heap_alloc_new w _, (Ext.refl w).alloc _⟩
theorem enters_pgroups1 : ∀ args w, (callFunc 61 args).run Try.prog w = .ok (.enter 61 args) w := fun _ _ => by kernel_rfl
set_option maxHeartbeats 2000000 in
theorem pgroups_seq (n : Nat) (hn5 : n ≤ 5) (bn : Nat) :
    SeqY Try.prog 61 #[.pointer (some ⟨bn, 0, none⟩)] (fun _ => True) (fun _ => False) (fun W => NBox W bn n) (groupsL n).length (fun i _ x _ => ∃ g, (groupsL n)[i]? = some g ∧ x = #[Gr.v g]) := by
  intro lp J Jx W hD hJ hJx hY hlp hI hO0 h0
  obtain ⟨w2, hw2⟩ : ∃ w2, (W.alloc (.cells #[.func (.yield lp) #[] #[]] 98)).alloc (.cells #[.func (.func 62) #[] #[.pointer (some ⟨W.heap.size, 0, none⟩), .pointer (some ⟨bn, 0, none⟩), .pointer (some ⟨W.heap.size + 1, 0, none⟩)]] 99) = w2 := ⟨_, rfl⟩
  have hE2 : Ext W w2 := by rw [← hw2]; exact ((Ext.refl W).alloc _).alloc _
  have hz2 : w2.heap.size = W.heap.size + 1 + 1 := by rw [← hw2]; simp
  have hG : DEnv w2 W.heap.size bn (W.heap.size + 1) n lp := by
    refine ⟨?_, ?_⟩
    · rw [← hw2]
      exact (Below.heap_alloc _ _ _ (by simp)).trans (heap_alloc_new W _)
    · rw [← hw2]
      have := heap_alloc_new (W.alloc (.cells #[.func (.yield lp) #[] #[]] 98)) (.cells #[.func (.func 62) #[] #[.pointer (some ⟨W.heap.size, 0, none⟩), .pointer (some ⟨bn, 0, none⟩), .pointer (some ⟨W.heap.size + 1, 0, none⟩)]] 99)
      rwa [World.size_alloc] at this
  have m0w := (hD _ _ _ h0).cell
  have zmw := lt_of_heap (hD _ _ _ h0)
  have HD := hide hD
  have HG := hide hG
  have HE2 := hide hE2
  have HZ2 := hide hz2
  have HJ := hide hJ
  have HJX := hide hJx
  have HY := hide hY
  have HO0 := hide hO0
  have H0 := hide h0
  have HLP := hide hlp
  have HW2 := hide hw2
  clear hG hE2 hz2 hD hJ hJx hY hO0 h0 hlp hw2 hI
  obtain ⟨OB, hOB⟩ : ∃ OB : Nat → Prop, OB = fun k => k = W.heap.size ∨ k = W.heap.size + 1 := ⟨_, rfl⟩
  have hOBz : ∀ k, OB k → k < w2.heap.size := fun k hk => by
    have := HZ2.out
    rw [hOB] at hk
    rcases hk with rfl | rfl
    · omega
    · omega
  have hj2 : J 0 OB w2 := HJ.out 0 _ OB _ _ H0.out (Off.of_ext HE2.out) fun k hk => ⟨by
    rw [hOB] at hk
    rcases hk with rfl | rfl
    · exact .inr (Nat.le_refl _)
    · exact .inr (by omega), hOBz k hk⟩
  have ask : IAsk n lp bn (groupsL n) J Jx :=
    ⟨hn5, HD.out, HJ.out, HJX.out, fun i g O W' hg hj hO => HY.out i #[Gr.v g] O W' (List.getElem?_eq_some_iff.1 hg).1 ⟨g, hg, rfl⟩ hj hO⟩
  have hf := sizef hn5
  have HALL : Hid (∀ V, Ext w2 V → Calls Try.prog 62 #[.int .i64 (fullN n : Nat), .agg #[.int .i64 n, .int .i64 0, .int .i64 0, .int .i64 0, .int .i64 0, .int .i64 0], .pointer (some ⟨W.heap.size, 0, none⟩), .pointer (some ⟨bn, 0, none⟩), .pointer (some ⟨W.heap.size + 1, 0, none⟩)] V fun e W' =>
      (e = .returned (.bool true) ∧ J (groupsL n).length OB W') ∨ (e = .returned (.bool false) ∧ Jx OB W')) := fun V hV =>
    ((div_all ask (OB := OB) (bz := W.heap.size) (bn := bn) (be := W.heap.size + 1) (by rw [hOB]; exact ⟨.inl rfl, .inr rfl⟩) n (fullN n) (hf.2.2) (hf.1)) (gzn n) 0 OB V (fun j x h => by rw [Nat.zero_add]; exact h) (HJ.out 0 _ OB _ _ hj2 (Off.of_ext hV) (Grow.same hOBz hV.size)) (fun k hk => Nat.lt_of_lt_of_le (hOBz k hk) hV.size) (fun _ h => h) (HG.out.ext hV) (by have := HLP.out; have := HZ2.out; have := hV.size; omega)).mono fun e W' h => by
      have h := h.2
      rw [Nat.zero_add] at h
      exact h
  clear hOB hOBz hj2 ask hf
  refine (callsIn_wide (n := 0)).2 ?_
  refine calls_of_wp Try.func61 rfl ?_
  simp only [Try.ntmps61, List.size_toArray, List.length_cons, List.length_nil, Nat.reduceAdd, Nat.reduceSub, Array.replicate_succ, Array.replicate_zero, List.push_toArray, List.append_toArray, List.nil_append, List.cons_append]
  go_wp2_with fail
  rw [HW2.out]
  clear m0w zmw
  refine wp_region_heldB (fun V => Ext w2 V) (fun j => j == 5) (by kernel_rfl) ?_
  intro Wd hWd
  have hR : Ext w2 Wd := by rw [hWd]; exact (Ext.refl w2).drew
  have m0w := ((HD.out _ _ _ H0.out).ext (HE2.out.trans hR)).cell
  have zmw := lt_of_heap ((HD.out _ _ _ H0.out).ext (HE2.out.trans hR))
  clear hWd
  refine wpAnyT_takeB (i := 0) (.func (.func 62) #[] #[.pointer (some ⟨W.heap.size, 0, none⟩), .pointer (some ⟨bn, 0, none⟩), .pointer (some ⟨W.heap.size + 1, 0, none⟩)]) rfl (by kernel_rfl) (fun j hj => by have h5 : j = 5 := (by simpa using hj); subst h5; show Region.waitsFor _ _ _ _ = true; kernel_rfl) (by kernel_rfl) (by kernel_rfl) (by simp [Region.wanted]) (fun V hV => by
    have x0 : V.cell? ⟨W.heap.size + 1, 0, none⟩ = some _ := cells_at (HG.out.ext hV).e 0
    have xz := lt_of_heap (HG.out.ext hV).e
    go_simp) hR ?_
  try simp only [Act.put, List.getElem_toArray, List.getElem_cons_zero, List.setIfInBounds_toArray, List.set_cons_zero, List.set_cons_succ]
  refine wpAnyT_two (i := 1) (j := 3) (by kernel_rfl) rfl rfl (fun K hK => ?_) (fun K hK => ?_)
  · go_wp2_with fail
    refine ⟨rfl, hK _ _ (fun _ => hR) ?_⟩
    clear hK K
    try simp only [Act.put, List.getElem_toArray, List.getElem_cons_zero, List.getElem_cons_succ, List.setIfInBounds_toArray, List.set_cons_zero, List.set_cons_succ]
    refine wpAnyT_two (i := 2) (j := 3) (by kernel_rfl) rfl rfl (fun K hK => ?_) (fun K hK => ?_)
    · go_wp2_with fail
      refine (pfull_any n hn5 Wd).mono ?_
      rintro e w5 ⟨rfl, hw5⟩
      rw [hw5]
      clear hw5 w5
      go_wp2_with fail
      refine ⟨rfl, hK _ _ (fun _ => hR) ?_⟩
      clear hK K
      try simp only [Act.put, List.getElem_toArray, List.getElem_cons_zero, List.getElem_cons_succ, List.setIfInBounds_toArray, List.set_cons_zero, List.set_cons_succ]
      refine wpAnyT_oneB (i := 3) rfl (by kernel_rfl) (fun K hK => ?_)
      go_wp2_with fail
      refine ⟨rfl, hK _ _ (fun _ => hR) ?_⟩
      clear hK K
      try simp only [Act.put, List.getElem_toArray, List.getElem_cons_zero, List.getElem_cons_succ, List.setIfInBounds_toArray, List.set_cons_zero, List.set_cons_succ]
      refine wpAnyT_takeB (i := 4) (.agg #[.int .i64 n, .int .i64 0, .int .i64 0, .int .i64 0, .int .i64 0, .int .i64 0]) rfl (by kernel_rfl) (fun j hj => by have h5 : j = 5 := (by simpa using hj); subst h5; show Region.waitsFor _ _ _ _ = true; kernel_rfl) (by kernel_rfl) (by kernel_rfl) (by simp [Region.wanted]) (fun V hV => by go_simp) hR ?_
      try simp only [Act.put, List.getElem_toArray, List.getElem_cons_zero, List.getElem_cons_succ, List.setIfInBounds_toArray, List.set_cons_zero, List.set_cons_succ]
      refine wpAnyT_oneB (i := 5) rfl (by kernel_rfl) (fun K hK => ?_)
      go_wp2_with fail
      refine (HALL.out Wd hR).mono ?_
      rintro e V (⟨rfl, h⟩ | ⟨rfl, h⟩)
      · go_wp2_with fail
        refine ⟨rfl, hK _ _ (fun h => by cases h) (wpAnyT_done (by kernel_rfl) ?_ _)⟩
        go_wp2_with fail
        exact bodyPost_end (results_none rfl _ _ _) rfl ⟨⟨_, rfl⟩, _, .inl h⟩
      · go_wp2_with fail
        refine ⟨rfl, hK _ _ (fun h => by cases h) (wpAnyT_done (by kernel_rfl) ?_ _)⟩
        go_wp2_with fail
        exact bodyPost_end (results_none rfl _ _ _) rfl ⟨⟨_, rfl⟩, _, .inr h⟩
    · go_wp2_with fail
      refine ⟨rfl, hK _ _ (fun _ => hR) ?_⟩
      clear hK K
      try simp only [Act.put, List.getElem_toArray, List.getElem_cons_zero, List.getElem_cons_succ, List.setIfInBounds_toArray, List.set_cons_zero, List.set_cons_succ]
      refine wpAnyT_takeB (i := 4) (.agg #[.int .i64 n, .int .i64 0, .int .i64 0, .int .i64 0, .int .i64 0, .int .i64 0]) rfl (by kernel_rfl) (fun j hj => by have h5 : j = 5 := (by simpa using hj); subst h5; show Region.waitsFor _ _ _ _ = true; kernel_rfl) (by kernel_rfl) (by kernel_rfl) (by simp [Region.wanted]) (fun V hV => by go_simp) hR ?_
      try simp only [Act.put, List.getElem_toArray, List.getElem_cons_zero, List.getElem_cons_succ, List.setIfInBounds_toArray, List.set_cons_zero, List.set_cons_succ]
      refine wpAnyT_oneB (i := 2) rfl (by kernel_rfl) (fun K hK => ?_)
      go_wp2_with fail
      refine (pfull_any n hn5 Wd).mono ?_
      rintro e w5 ⟨rfl, hw5⟩
      rw [hw5]
      clear hw5 w5
      go_wp2_with fail
      refine ⟨rfl, hK _ _ (fun _ => hR) ?_⟩
      clear hK K
      try simp only [Act.put, List.getElem_toArray, List.getElem_cons_zero, List.getElem_cons_succ, List.setIfInBounds_toArray, List.set_cons_zero, List.set_cons_succ]
      refine wpAnyT_oneB (i := 5) rfl (by kernel_rfl) (fun K hK => ?_)
      go_wp2_with fail
      refine (HALL.out Wd hR).mono ?_
      rintro e V (⟨rfl, h⟩ | ⟨rfl, h⟩)
      · go_wp2_with fail
        refine ⟨rfl, hK _ _ (fun h => by cases h) (wpAnyT_done (by kernel_rfl) ?_ _)⟩
        go_wp2_with fail
        exact bodyPost_end (results_none rfl _ _ _) rfl ⟨⟨_, rfl⟩, _, .inl h⟩
      · go_wp2_with fail
        refine ⟨rfl, hK _ _ (fun h => by cases h) (wpAnyT_done (by kernel_rfl) ?_ _)⟩
        go_wp2_with fail
        exact bodyPost_end (results_none rfl _ _ _) rfl ⟨⟨_, rfl⟩, _, .inr h⟩
  · go_wp2_with fail
    refine ⟨rfl, hK _ _ (fun _ => hR) ?_⟩
    clear hK K
    try simp only [Act.put, List.getElem_toArray, List.getElem_cons_zero, List.getElem_cons_succ, List.setIfInBounds_toArray, List.set_cons_zero, List.set_cons_succ]
    refine wpAnyT_takeB (i := 4) (.agg #[.int .i64 n, .int .i64 0, .int .i64 0, .int .i64 0, .int .i64 0, .int .i64 0]) rfl (by kernel_rfl) (fun j hj => by have h5 : j = 5 := (by simpa using hj); subst h5; show Region.waitsFor _ _ _ _ = true; kernel_rfl) (by kernel_rfl) (by kernel_rfl) (by simp [Region.wanted]) (fun V hV => by go_simp) hR ?_
    try simp only [Act.put, List.getElem_toArray, List.getElem_cons_zero, List.getElem_cons_succ, List.setIfInBounds_toArray, List.set_cons_zero, List.set_cons_succ]
    refine wpAnyT_oneB (i := 1) rfl (by kernel_rfl) (fun K hK => ?_)
    go_wp2_with fail
    refine ⟨rfl, hK _ _ (fun _ => hR) ?_⟩
    clear hK K
    try simp only [Act.put, List.getElem_toArray, List.getElem_cons_zero, List.getElem_cons_succ, List.setIfInBounds_toArray, List.set_cons_zero, List.set_cons_succ]
    refine wpAnyT_oneB (i := 2) rfl (by kernel_rfl) (fun K hK => ?_)
    go_wp2_with fail
    refine (pfull_any n hn5 Wd).mono ?_
    rintro e w5 ⟨rfl, hw5⟩
    rw [hw5]
    clear hw5 w5
    go_wp2_with fail
    refine ⟨rfl, hK _ _ (fun _ => hR) ?_⟩
    clear hK K
    try simp only [Act.put, List.getElem_toArray, List.getElem_cons_zero, List.getElem_cons_succ, List.setIfInBounds_toArray, List.set_cons_zero, List.set_cons_succ]
    refine wpAnyT_oneB (i := 5) rfl (by kernel_rfl) (fun K hK => ?_)
    go_wp2_with fail
    refine (HALL.out Wd hR).mono ?_
    rintro e V (⟨rfl, h⟩ | ⟨rfl, h⟩)
    · go_wp2_with fail
      refine ⟨rfl, hK _ _ (fun h => by cases h) (wpAnyT_done (by kernel_rfl) ?_ _)⟩
      go_wp2_with fail
      exact bodyPost_end (results_none rfl _ _ _) rfl ⟨⟨_, rfl⟩, _, .inl h⟩
    · go_wp2_with fail
      refine ⟨rfl, hK _ _ (fun h => by cases h) (wpAnyT_done (by kernel_rfl) ?_ _)⟩
      go_wp2_with fail
      exact bodyPost_end (results_none rfl _ _ _) rfl ⟨⟨_, rfl⟩, _, .inr h⟩
theorem psnapshots_any (n : Nat) (w : World) : Calls Try.prog 43 #[.int .i64 n] w fun e w' => e = .returned (.func (.func 65) #[] #[.pointer (some ⟨w.heap.size, 0, none⟩)]) ∧ NBox w' w.heap.size n ∧ Ext w w' := by
  go_enter Try.func43, Try.ntmps43
  go_wp2_with fail
  go_ret
  exact ⟨rfl, heap_alloc_new w _, (Ext.refl w).alloc _⟩
theorem enters_psnapshots1 : ∀ args w, (callFunc 65 args).run Try.prog w = .ok (.enter 65 args) w := fun _ _ => by kernel_rfl
set_option maxHeartbeats 2000000 in
theorem psnapshots_seq (n : Nat) (hn5 : n ≤ 5) (bn : Nat) :
    SeqY Try.prog 65 #[.pointer (some ⟨bn, 0, none⟩)] (fun _ => True) (fun _ => False) (fun W => NBox W bn n) (snapL n).length (fun i _ x _ => ∃ g, (snapL n)[i]? = some g ∧ x = #[Gr.v g]) := by
  intro lp J Jx W hD hJ hJx hY hlp hI hO0 h0
  obtain ⟨w2, hw2⟩ : ∃ w2, (W.alloc (.cells #[.func (.yield lp) #[] #[]] 98)).alloc (.cells #[.func (.func 66) #[] #[.pointer (some ⟨bn, 0, none⟩), .pointer (some ⟨W.heap.size, 0, none⟩), .pointer (some ⟨W.heap.size + 1, 0, none⟩)]] 99) = w2 := ⟨_, rfl⟩
  have hE2 : Ext W w2 := by rw [← hw2]; exact ((Ext.refl W).alloc _).alloc _
  have hz2 : w2.heap.size = W.heap.size + 1 + 1 := by rw [← hw2]; simp
  have hG : NEnv w2 W.heap.size bn (W.heap.size + 1) n lp := by
    refine ⟨?_, ?_⟩
    · rw [← hw2]
      exact (Below.heap_alloc _ _ _ (by simp)).trans (heap_alloc_new W _)
    · rw [← hw2]
      have := heap_alloc_new (W.alloc (.cells #[.func (.yield lp) #[] #[]] 98)) (.cells #[.func (.func 66) #[] #[.pointer (some ⟨bn, 0, none⟩), .pointer (some ⟨W.heap.size, 0, none⟩), .pointer (some ⟨W.heap.size + 1, 0, none⟩)]] 99)
      rwa [World.size_alloc] at this
  have m0w := (hD _ _ _ h0).cell
  have zmw := lt_of_heap (hD _ _ _ h0)
  have HD := hide hD
  have HG := hide hG
  have HE2 := hide hE2
  have HZ2 := hide hz2
  have HJ := hide hJ
  have HJX := hide hJx
  have HY := hide hY
  have HO0 := hide hO0
  have H0 := hide h0
  have HLP := hide hlp
  have HW2 := hide hw2
  clear hG hE2 hz2 hD hJ hJx hY hO0 h0 hlp hw2 hI
  obtain ⟨OB, hOB⟩ : ∃ OB : Nat → Prop, OB = fun k => k = W.heap.size ∨ k = W.heap.size + 1 := ⟨_, rfl⟩
  have hOBz : ∀ k, OB k → k < w2.heap.size := fun k hk => by
    have := HZ2.out
    rw [hOB] at hk
    rcases hk with rfl | rfl
    · omega
    · omega
  have hj2 : J 0 OB w2 := HJ.out 0 _ OB _ _ H0.out (Off.of_ext HE2.out) fun k hk => ⟨by
    rw [hOB] at hk
    rcases hk with rfl | rfl
    · exact .inr (Nat.le_refl _)
    · exact .inr (by omega), hOBz k hk⟩
  have ask : IAsk n lp bn (snapL n) J Jx :=
    ⟨hn5, HD.out, HJ.out, HJX.out, fun i g O W' hg hj hO => HY.out i #[Gr.v g] O W' (List.getElem?_eq_some_iff.1 hg).1 ⟨g, hg, rfl⟩ hj hO⟩
  have hf := sizef hn5
  have HALL : Hid (∀ V, Ext w2 V → Calls Try.prog 66 #[.int .i64 (0 : Nat), .agg #[.int .i64 n, .int .i64 0, .int .i64 0, .int .i64 0, .int .i64 0, .int .i64 0], .pointer (some ⟨bn, 0, none⟩), .pointer (some ⟨W.heap.size, 0, none⟩), .pointer (some ⟨W.heap.size + 1, 0, none⟩)] V fun e W' =>
      (e = .returned (.bool true) ∧ J (snapL n).length OB W') ∨ (e = .returned (.bool false) ∧ Jx OB W')) := fun V hV =>
    ((nxt_all ask (OB := OB) (bz := W.heap.size) (bn := bn) (be := W.heap.size + 1) (by rw [hOB]; exact ⟨.inl rfl, .inr rfl⟩) n (0) (Nat.two_pow_pos n) (by rw [hf.2.1]; exact hf.1)) (gzn n) 0 OB V (fun j x h => by rw [Nat.zero_add]; exact h) (HJ.out 0 _ OB _ _ hj2 (Off.of_ext hV) (Grow.same hOBz hV.size)) (fun k hk => Nat.lt_of_lt_of_le (hOBz k hk) hV.size) (fun _ h => h) (HG.out.ext hV) (by have := HLP.out; have := HZ2.out; have := hV.size; omega)).mono fun e W' h => by
      have h := h.2
      rw [Nat.zero_add] at h
      exact h
  clear hOB hOBz hj2 ask hf
  refine (callsIn_wide (n := 0)).2 ?_
  refine calls_of_wp Try.func65 rfl ?_
  simp only [Try.ntmps65, List.size_toArray, List.length_cons, List.length_nil, Nat.reduceAdd, Nat.reduceSub, Array.replicate_succ, Array.replicate_zero, List.push_toArray, List.append_toArray, List.nil_append, List.cons_append]
  go_wp2_with fail
  rw [HW2.out]
  refine (HALL.out w2 (Ext.refl w2)).mono ?_
  rintro e V (⟨rfl, h⟩ | ⟨rfl, h⟩)
  · go_wp2_with fail
    exact bodyPost_end (results_none rfl _ _ _) rfl ⟨⟨_, rfl⟩, _, .inl h⟩
  · go_wp2_with fail
    exact bodyPost_end (results_none rfl _ _ _) rfl ⟨⟨_, rfl⟩, _, .inr h⟩
end Go.Proofs.Ytnhgdjiljjpgmaa

namespace Go.Proofs.Ytnhgdjiljjpgmaa
open Go.RowKit
attribute [local go_sem] Oper.semAt_some

def FSBox (W : World) (b lp : Nat) : Prop := W.heap[b]? = some (.cells #[.func (.yield lp) #[] #[]] 66 (0, 0))
theorem FSBox.of {W W' : World} {b lp : Nat} (h : FSBox W b lp) (hb : W'.heap[b]? = W.heap[b]?) : FSBox W' b lp := hb.trans h
theorem FSBox.cell {W : World} {b lp : Nat} (h : FSBox W b lp) : W.cell? ⟨b, 0, none⟩ = some (.func (.yield lp) #[] #[]) := by rw [cell_of_row W b 0 _ _ _ h]; rfl
def obF (g : Gr) : List Stp17 := [((⟨g, 0⟩ : Rd), 0)]
theorem snapE_obF (n : Nat) : snapE n = (snapL n).flatMap obF := by
  unfold snapE obF
  induction snapL n with
  | nil => rfl
  | cons a l ih => rw [List.map_cons, List.flatMap_cons, ih]; rfl
def parF (n k key : Nat) (g : Gr) : List Stp17 := if (if g = wholeG n then key else key + 1) ≤ k then [(⟨g, 0⟩, if g = wholeG n then key else key + 1)] else []
set_option maxRecDepth 16000 in
set_option maxHeartbeats 4000000 in
theorem pobl_seq {L : List Gr} {fg bg : Nat} {ib : Array Value} {w : World} (eg : ∀ args w, (callFunc fg args).run Try.prog w = .ok (.enter fg args) w) (hseq : SeqY Try.prog fg ib (fun _ => True) (fun _ => False) (fun W => Ext w W) L.length (fun i _ x _ => ∃ g, L[i]? = some g ∧ x = #[Gr.v g])) (hbg : w.heap[bg]? = some (.cells #[.func (.func fg) #[] ib] 68 (0, 0))) :
    SeqY Try.prog 64 #[.pointer (some ⟨bg, 0, none⟩)] (fun _ => True) (fun _ => False) (fun W => Ext w W) (L.flatMap obF).length (fun i _ x _ => ∃ s, (L.flatMap obF)[i]? = some s ∧ x = #[stpV s]) := by
  intro lp J Jx W hD hJ hJx hY hlp hI hO0 h0
  have hw := hD _ _ _ h0
  have HD := hide hD
  have HJ := hide hJ
  have HJX := hide hJx
  have HY := hide hY
  have HI := hide hI
  have H0 := hide h0
  have HO0 := hide hO0
  have HW := hide hw
  have hb0 : W.cell? ⟨bg, 0, none⟩ = some (.func (.func fg) #[] ib) := cells_at ((hw.b.block _ (lt_of_heap hbg)).trans hbg) 0
  have hbz := lt_of_heap ((hw.b.block _ (lt_of_heap hbg)).trans hbg)
  clear hD hJ hJx hY h0 hI hO0 hw
  refine (callsIn_wide (n := 0)).2 ?_
  refine calls_of_wp_m Try.func64 rfl ?_
  simp only [Try.ntmps64, List.size_toArray, List.length_cons, List.length_nil, Nat.reduceAdd, Nat.reduceSub, Array.replicate_succ, Array.replicate_zero, List.push_toArray, List.append_toArray, List.nil_append, List.cons_append]
  go_wp2_with fail
  obtain ⟨W1, hW1⟩ : ∃ W1, W.alloc (.cells #[.func (.yield lp) #[] #[]] 66) = W1 := ⟨_, rfl⟩
  have HE1 : Hid (Ext W W1) := by show Ext _ _; rw [← hW1]; exact (Ext.refl _).alloc _
  have HF1 : Hid (FSBox W1 W.heap.size lp) := by show _ = _; rw [← hW1]; exact heap_alloc_new W _
  rw [hW1]
  obtain ⟨W2, hW2⟩ : ∃ W2, W2 = W1 := ⟨_, rfl⟩
  subst hW2
  have HE2 := HE1
  have HF2 := HF1
  clear hW1 hb0 hbz
  obtain ⟨gy, hgy⟩ : ∃ gy, W.heap.size = gy := ⟨_, rfl⟩
  obtain ⟨B, hB⟩ : ∃ B, W2.heap.size = B := ⟨_, rfl⟩
  obtain ⟨OB, hOB⟩ : ∃ OB : Nat → Prop, OB = fun k => k = gy := ⟨_, rfl⟩
  obtain ⟨S, hS⟩ : ∃ S : World → Prop, S = fun V => FSBox V gy lp := ⟨_, rfl⟩
  have hz2 : gy < B := by have := lt_of_heap HF2.out; omega
  have hOBz : ∀ k, OB k → k < B := fun k hk => by
    rw [hOB] at hk
    omega
  have hlpB : lp < B := by omega
  have hSK : ∀ V V', S V → (∀ k, OB k → V'.heap[k]? = V.heap[k]?) → S V' := by
    rw [hS, hOB]
    exact fun V V' h hk => h.of (hk _ rfl)
  have HS2 : Hid (S W2) := by rw [hS]; exact hgy ▸ HF2.out
  have HSS : Hid (∀ V, S V → FSBox V gy lp) := by rw [hS]; exact fun V h => h
  have hOBg : ∀ k, OB k → False ∨ W.heap.size ≤ k := fun k hk => by
    rw [hOB] at hk
    exact .inr (by omega)
  have HOBZ := hide hOBz
  have HOB := hide hOB
  have HLPB : Hid (lp < B) := hlpB
  have HSK : Hid (∀ V V', S V → (∀ k, OB k → V'.heap[k]? = V.heap[k]?) → S V') := hSK
  have HJ2 : Hid (J 0 (fun k => OB k ∨ False ∨ ((k = B ∨ k = B + 1) ∧ k < W2.heap.size)) W2) := by
    refine HJ.out 0 _ _ _ _ H0.out (Off.of_ext HE2.out) fun k hk => ?_
    have hW2 := HE2.out.size
    rcases hk with hk | hk | ⟨hk, hlt⟩
    · exact ⟨hOBg k hk, by have := hOBz k hk; omega⟩
    · exact hk.elim
    · exfalso; omega
  rw [hgy]
  have HBB := hide hB
  clear hOBz hOB HF2 H0 HI HO0 hSK hOBg hlpB
  refine wp_rangeY (n := L.length) rfl eg hseq (fun i O x V hi hX => by obtain ⟨g, -, rfl⟩ := hX; rfl)
    (fun i O V => (J ((L.take i).flatMap obF).length (fun k => OB k ∨ O k ∨ ((k = B ∨ k = B + 1) ∧ k < V.heap.size)) V ∧ ∀ k, OB k → k < V.heap.size) ∧ S V ∧ ∀ k, OB k → ¬ O k)
    (fun c O V => c = .ret ∧ Jx (fun k => OB k ∨ O k ∨ ((k = B ∨ k = B + 1) ∧ k < V.heap.size)) V ∧ ∀ k, OB k → k < V.heap.size) ?_ ?_ ?_ ?_ ?_ ?_ ?_ ?_ ?_
  · exact fun i O V h => HD.out _ _ _ h.1.1
  · intro i
    rw [HBB.out]
    exact rely_own (HJ.out _) (fun k hk => by have := HOBZ.out k hk; omega) HSK.out
  · rintro c O O' V V' ⟨hc, h1⟩ hoff hG
    rw [HBB.out] at hoff
    exact ⟨hc, rely_in HJX.out OB (fun k => k = B ∨ k = B + 1) O O' V V' h1 hoff hG⟩
  · exact fun V hE => trivial
  · exact fun k hk => hk.elim
  · exact ⟨⟨by simpa using HJ2.out, fun k hk => by have := HOBZ.out k hk; omega⟩, HS2.out, fun k hk h => h⟩
  · rintro l i x O V hi ⟨g, hLi, rfl⟩ ⟨⟨hj, hjz⟩, h2, h5⟩ hOV hl hlV
    rw [HBB.out] at hl ⊢
    obtain ⟨OC, hOC⟩ : ∃ OC : Nat → Prop, OC = fun k => OB k ∨ O k ∨ ((k = B ∨ k = B + 1) ∧ k < V.heap.size) := ⟨_, rfl⟩
    rw [← hOC] at hj
    have HOFF : Hid (((L.take (i + 1)).flatMap obF).length = ((L.take i).flatMap obF).length + (obF g).length) := flat_off _ _ _ _ hLi
    obtain ⟨off, hoff⟩ : ∃ off, ((L.take i).flatMap obF).length = off := ⟨_, rfl⟩
    rw [hoff] at HOFF hj
    have HIDX : Hid (∀ j x, (obF g)[j]? = some x → (L.flatMap obF)[off + j]? = some x) := fun j x hx => by rw [← hoff]; exact flat_at _ _ _ _ _ _ hLi hx
    clear hoff hi hLi
    gi_wp2_with fail
    refine ⟨KFO.of_ext ((Ext.refl V).alloc _) hOV, fun V2 hC hrec => ?_⟩
    have hgl : GrBox V2 V.heap.size g := (hC.block _ (by simp) (by omega)).trans (heap_alloc_new V _)
    have hzz := hC.size
    have hzv : V.heap.size < V2.heap.size := by simp at hzz; omega
    have hbk : ∀ k, k < V.heap.size → k ≠ B + 1 → V2.heap[k]? = V.heap[k]? := fun k hk hn => (hC.block k (by simp; omega) (by omega)).trans (Below.heap_alloc _ _ _ (by omega))
    have keep : ∀ k, OB k → V2.heap[k]? = V.heap[k]? := fun k hk => hbk k (hjz k hk) fun e => by have := HOBZ.out k hk; omega
    have hOCz : ∀ k, OC k → k < V2.heap.size := fun k hk => by
      rw [hOC] at hk
      rcases hk with hk | hk | ⟨_, hk⟩
      · have := hjz k hk; omega
      · have := hOV k hk; omega
      · omega
    have hj2 := HJ.out off OC OC V V2 hj ⟨hC.os, hC.tape, hC.output, by omega, fun k hk hn => hbk k hk fun e => hn (by rw [hOC]; exact .inr (.inr ⟨.inr e, hk⟩))⟩ (fun k hk => ⟨.inl hk, hOCz k hk⟩)
    have hs2 := HSK.out V V2 h2 keep
    have HJ2 := hide hj2
    have HS3 := hide hs2
    have HOC := hide hOC
    have HCZ := hide hOCz
    have HVZ : Hid (V.heap.size ≤ V2.heap.size) := by show _ ≤ _; omega
    obtain ⟨y3, hy3⟩ : ∃ y, V.heap.size = y := ⟨_, rfl⟩
    rw [hy3] at hgl
    obtain ⟨x0, x1, x2, x3, x4, x5, xz⟩ := GrBox.cells hgl
    rw [← hy3] at x0 x1 x2 x3 x4 x5 xz
    have HH5 := hide h5
    have HOV := hide hOV
    have HLV : Hid (∀ k, (k = B ∨ k = B + 1) → k < V.heap.size) := fun k hk => by rcases hk with rfl | rfl <;> omega
    clear hj hj2 hOC hOCz h2 hs2 keep hC h5 hjz hOV hrec hgl hzz hzv hbk hy3
    have HST : Hid ((L.flatMap obF)[off]? = some (⟨g, 0⟩, 0)) := HIDX.out 0 _ rfl
    have y0 := (HSS.out V2 HS3.out).cell
    have yz := lt_of_heap (HSS.out V2 HS3.out)
    obtain ⟨fn, tmps, assign, body, hy, hR⟩ := HY.out off #[stpV (⟨g, 0⟩, 0)] OC V2 (List.getElem?_eq_some_iff.1 HST.out).1 ⟨_, HST.out, rfl⟩ HJ2.out HCZ.out
    have HRR := hide hR
    unfold stpV at hy
    dsimp only at hy
    rw [show ((0 : Nat) : Int) = 0 from rfl] at hy
    clear hR
    gi_wp2_with fail
    refine ⟨rfl, HRR.out.mono ?_⟩
    rintro e V3 ⟨⟨hko, hsz, hkf⟩, hres⟩
    have hlpB := HLPB.out
    have hKFO : KFO B O V2 V3 := ⟨hkf.up (by omega), fun k hk => hko k (by rw [HOC.out]; exact .inr (.inl hk))⟩
    have HS4 := hide (HSK.out V2 V3 HS3.out fun k hk => hko k (by rw [HOC.out]; exact .inl hk))
    have hgrow : Grow OC (fun k => OB k ∨ O k ∨ ((k = B ∨ k = B + 1) ∧ k < V3.heap.size)) V3 V3 := fun k hk => by
      have hv := HVZ.out
      rcases hk with hk | hk | ⟨hk, h3⟩
      · have h1 : OC k := by rw [HOC.out]; exact .inl hk
        exact ⟨.inl h1, by have := HCZ.out k h1; omega⟩
      · have h1 : OC k := by rw [HOC.out]; exact .inr (.inl hk)
        exact ⟨.inl h1, by have := HCZ.out k h1; omega⟩
      · exact ⟨.inl (by rw [HOC.out]; exact .inr (.inr ⟨hk, HLV.out k hk⟩)), h3⟩
    have hbd : ∀ k, OB k → k < V3.heap.size := fun k hk => by have := HCZ.out k (by rw [HOC.out]; exact .inl hk); omega
    have HKFO := hide hKFO
    have HBD := hide hbd
    have HGW := hide hgrow
    clear hko hkf hKFO hgrow hbd hy HRR y0 yz x0 x1 x2 x3 x4 x5 xz
    rcases hres with ⟨rfl, hJ'⟩ | ⟨rfl, hJx'⟩
    · have HJ' := hide (HJ.out _ _ _ _ _ hJ' (Off.refl _ _) HGW.out)
      clear hJ'
      gi_wp2_with fail
      refine ⟨HKFO.out, ⟨?_, HBD.out⟩, HS4.out, HH5.out⟩
      rw [HOFF.out, show (obF g).length = 1 from rfl]
      exact HJ'.out
    · have HJ' := hide (HJX.out _ _ _ _ hJx' (Off.refl _ _) HGW.out)
      clear hJx'
      gi_wp2_with fail
      exact ⟨HKFO.out, rfl, HJ'.out, HBD.out⟩
  · rintro M O V ⟨⟨hj, hjz⟩, -, -⟩ hM hMM
    rw [HBB.out] at hM
    subst hM
    have hz := lt_of_heap hMM
    have hj2 := HJ.out _ _ (fun _ => False) _ (V.putObj M (.deferred none)) hj ⟨rfl, rfl, rfl, by simp, fun k _ hn => World.putObj_heap_other fun e => hn (.inr (.inr ⟨.inl e, by omega⟩))⟩ (fun k hk => hk.elim)
    go_wp2_with fail
    rw [List.take_length] at hj2
    exact leave_mark rfl hMM (results_none rfl _ _ _) ⟨⟨_, rfl⟩, _, .inl hj2⟩
  · rintro M c O V ⟨rfl, hj, hjz⟩ hM hMM
    rw [HBB.out] at hM
    subst hM
    have hz := lt_of_heap hMM
    have hj2 := HJX.out _ (fun _ => False) _ (V.putObj M (.deferred none)) hj ⟨rfl, rfl, rfl, by simp, fun k _ hn => World.putObj_heap_other fun e => hn (.inr (.inr ⟨.inl e, by omega⟩))⟩ (fun k hk => hk.elim)
    go_wp2_with fail
    exact leave_mark rfl hMM (results_none rfl _ _ _) ⟨⟨_, rfl⟩, _, .inr hj2⟩
set_option maxRecDepth 16000 in
set_option maxHeartbeats 4000000 in
theorem ppart_seq {n k key bn bw bk bq : Nat} {w : World} (hn5 : n ≤ 5) (hkey : key ≤ k) (hk6 : k ≤ 6) (hbn : NBox w bn n) (hbw : GrBox w bw (wholeG n)) (hbk0 : NBox w bk k) :
    SeqY Try.prog 40 #[.pointer (some ⟨bn, 0, none⟩), .pointer (some ⟨bq, 0, none⟩), .pointer (some ⟨bw, 0, none⟩), .pointer (some ⟨bk, 0, none⟩)] (fun W => NBox W bq key) (fun k => k = bq) (fun W => Ext w W) ((groupsL n).flatMap (parF n k key)).length (fun i _ x _ => ∃ s, ((groupsL n).flatMap (parF n k key))[i]? = some s ∧ x = #[stpV s]) := by
  intro lp J Jx W hD hJ hJx hY hlp hI hO0 h0
  have hw := hD _ _ _ h0
  have HD := hide hD
  have HJ := hide hJ
  have HJX := hide hJx
  have HY := hide hY
  have HI := hide hI
  have H0 := hide h0
  have HO0 := hide hO0
  have HW := hide hw
  have n0 := (hbn.ext hw).cell
  have nz := lt_of_heap (hbn.ext hw)
  clear hD hJ hJx hY h0 hI hO0 hw
  refine (callsIn_wide (n := 0)).2 ?_
  refine calls_of_wp_m Try.func40 rfl ?_
  simp only [Try.ntmps40, List.size_toArray, List.length_cons, List.length_nil, Nat.reduceAdd, Nat.reduceSub, Array.replicate_succ, Array.replicate_zero, List.push_toArray, List.append_toArray, List.nil_append, List.cons_append]
  go_wp2_with fail
  obtain ⟨W1, hW1⟩ : ∃ W1, W.alloc (.cells #[.func (.yield lp) #[] #[]] 66) = W1 := ⟨_, rfl⟩
  have HE1 : Hid (Ext W W1) := by show Ext _ _; rw [← hW1]; exact (Ext.refl _).alloc _
  have HF1 : Hid (FSBox W1 W.heap.size lp) := by show _ = _; rw [← hW1]; exact heap_alloc_new W _
  rw [hW1]
  refine (pgroups_any n W1).mono ?_
  rintro e W2 ⟨rfl, hn2, hE2⟩
  have HZ1 : Hid (W.heap.size < W1.heap.size) := lt_of_heap HF1.out
  have HE2 := hide (HE1.out.trans hE2)
  have HF2 : Hid (FSBox W2 W.heap.size lp) := HF1.out.of (hE2.b.block _ (lt_of_heap HF1.out))
  have HN2 := hide hn2
  clear hW1 n0 nz hE2 hn2
  go_wp2_with fail
  obtain ⟨gy, hgy⟩ : ∃ gy, W.heap.size = gy := ⟨_, rfl⟩
  obtain ⟨B, hB⟩ : ∃ B, W2.heap.size = B := ⟨_, rfl⟩
  obtain ⟨gn, hgn⟩ : ∃ gn, W1.heap.size = gn := ⟨_, rfl⟩
  obtain ⟨OB, hOB⟩ : ∃ OB : Nat → Prop, OB = fun k => k = bq ∨ k = gy ∨ k = gn := ⟨_, rfl⟩
  obtain ⟨S, hS⟩ : ∃ S : World → Prop, S = fun V => NBox V bq key ∧ FSBox V gy lp ∧ NBox V gn n := ⟨_, rfl⟩
  have hz1 : gy < gn := by have := HZ1.out; omega
  have hz2 : gn < B := by have := lt_of_heap HN2.out; omega
  have hOBz : ∀ k, OB k → k < B := fun k hk => by
    rw [hOB] at hk
    have := HO0.out bq rfl
    rcases hk with rfl | rfl | rfl <;> omega
  have hlpB : lp < B := by omega
  have hSK : ∀ V V', S V → (∀ k, OB k → V'.heap[k]? = V.heap[k]?) → S V' := by
    rw [hS, hOB]
    exact fun V V' h hk => ⟨h.1.of (hk _ (.inl rfl)), h.2.1.of (hk _ (.inr (.inl rfl))), h.2.2.of (hk _ (.inr (.inr rfl)))⟩
  have HS2 : Hid (S W2) := by rw [hS]; exact ⟨HI.out.ext HE2.out, hgy ▸ HF2.out, hgn ▸ HN2.out⟩
  have HSS : Hid (∀ V, S V → NBox V bq key ∧ FSBox V gy lp ∧ NBox V gn n) := by rw [hS]; exact fun V h => h
  have hOBg : ∀ k, OB k → k = bq ∨ W.heap.size ≤ k := fun k hk => by
    rw [hOB] at hk
    rcases hk with rfl | rfl | rfl
    · exact .inl rfl
    · exact .inr (by omega)
    · exact .inr (by omega)
  rw [hgn]
  have HOBZ := hide hOBz
  have HOB := hide hOB
  have HLPB : Hid (lp < B) := hlpB
  have HSK : Hid (∀ V V', S V → (∀ k, OB k → V'.heap[k]? = V.heap[k]?) → S V') := hSK
  have HJ2 : Hid (J 0 (fun k => OB k ∨ False ∨ ((k = B ∨ k = B + 1) ∧ k < W2.heap.size)) W2) := by
    refine HJ.out 0 _ _ _ _ H0.out (Off.of_ext HE2.out) fun k hk => ?_
    have hW2 := HE2.out.size
    rcases hk with hk | hk | ⟨hk, hlt⟩
    · exact ⟨hOBg k hk, by have := hOBz k hk; omega⟩
    · exact hk.elim
    · exfalso; omega
  rw [hgy]
  have HBB := hide hB
  clear hOBz hOB HF2 H0 HI HO0 hSK hOBg hlpB
  refine wp_rangeY (n := (groupsL n).length) rfl enters_pgroups1 (pgroups_seq n hn5 gn) (fun i O x V hi hX => by obtain ⟨g, -, rfl⟩ := hX; rfl)
    (fun i O V => (J (((groupsL n).take i).flatMap (parF n k key)).length (fun k => OB k ∨ O k ∨ ((k = B ∨ k = B + 1) ∧ k < V.heap.size)) V ∧ ∀ k, OB k → k < V.heap.size) ∧ S V ∧ ∀ k, OB k → ¬ O k)
    (fun c O V => c = .ret ∧ Jx (fun k => OB k ∨ O k ∨ ((k = B ∨ k = B + 1) ∧ k < V.heap.size)) V ∧ ∀ k, OB k → k < V.heap.size) ?_ ?_ ?_ ?_ ?_ ?_ ?_ ?_ ?_
  · exact fun i O V h => (HSS.out V h.2.1).2.2
  · intro i
    rw [HBB.out]
    exact rely_own (HJ.out _) (fun k hk => by have := HOBZ.out k hk; omega) HSK.out
  · rintro c O O' V V' ⟨hc, h1⟩ hoff hG
    rw [HBB.out] at hoff
    exact ⟨hc, rely_in HJX.out OB (fun k => k = B ∨ k = B + 1) O O' V V' h1 hoff hG⟩
  · exact fun V hE => trivial
  · exact fun k hk => hk.elim
  · exact ⟨⟨by simpa using HJ2.out, fun k hk => by have := HOBZ.out k hk; omega⟩, HS2.out, fun k hk h => h⟩
  · rintro l i x O V hi ⟨g, hLi, rfl⟩ ⟨⟨hj, hjz⟩, h2, h5⟩ hOV hl hlV
    rw [HBB.out] at hl ⊢
    obtain ⟨OC, hOC⟩ : ∃ OC : Nat → Prop, OC = fun k => OB k ∨ O k ∨ ((k = B ∨ k = B + 1) ∧ k < V.heap.size) := ⟨_, rfl⟩
    rw [← hOC] at hj
    have HOFF : Hid ((((groupsL n).take (i + 1)).flatMap (parF n k key)).length = (((groupsL n).take i).flatMap (parF n k key)).length + ((parF n k key) g).length) := flat_off _ _ _ _ hLi
    obtain ⟨off, hoff⟩ : ∃ off, (((groupsL n).take i).flatMap (parF n k key)).length = off := ⟨_, rfl⟩
    rw [hoff] at HOFF hj
    have HIDX : Hid (∀ j x, ((parF n k key) g)[j]? = some x → ((groupsL n).flatMap (parF n k key))[off + j]? = some x) := fun j x hx => by rw [← hoff]; exact flat_at _ _ _ _ _ _ hLi hx
    clear hoff hi hLi
    gi_wp2_with fail
    refine ⟨KFO.of_ext ((Ext.refl V).alloc _) hOV, fun V2 hC hrec => ?_⟩
    have hgl : GrBox V2 V.heap.size g := (hC.block _ (by simp) (by omega)).trans (heap_alloc_new V _)
    have hzz := hC.size
    have hzv : V.heap.size < V2.heap.size := by simp at hzz; omega
    have hbk : ∀ k, k < V.heap.size → k ≠ B + 1 → V2.heap[k]? = V.heap[k]? := fun k hk hn => (hC.block k (by simp; omega) (by omega)).trans (Below.heap_alloc _ _ _ (by omega))
    have keep : ∀ k, OB k → V2.heap[k]? = V.heap[k]? := fun k hk => hbk k (hjz k hk) fun e => by have := HOBZ.out k hk; omega
    have hOCz : ∀ k, OC k → k < V2.heap.size := fun k hk => by
      rw [hOC] at hk
      rcases hk with hk | hk | ⟨_, hk⟩
      · have := hjz k hk; omega
      · have := hOV k hk; omega
      · omega
    have hj2 := HJ.out off OC OC V V2 hj ⟨hC.os, hC.tape, hC.output, by omega, fun k hk hn => hbk k hk fun e => hn (by rw [hOC]; exact .inr (.inr ⟨.inr e, hk⟩))⟩ (fun k hk => ⟨.inl hk, hOCz k hk⟩)
    have hs2 := HSK.out V V2 h2 keep
    have HJ2 := hide hj2
    have HS3 := hide hs2
    have HOC := hide hOC
    have HCZ := hide hOCz
    have HVZ : Hid (V.heap.size ≤ V2.heap.size) := by show _ ≤ _; omega
    obtain ⟨y3, hy3⟩ : ∃ y, V.heap.size = y := ⟨_, rfl⟩
    rw [hy3] at hgl
    obtain ⟨x0, x1, x2, x3, x4, x5, xz⟩ := GrBox.cells hgl
    rw [← hy3] at x0 x1 x2 x3 x4 x5 xz
    have HH5 := hide h5
    have HOV := hide hOV
    have HLV : Hid (∀ k, (k = B ∨ k = B + 1) → k < V.heap.size) := fun k hk => by rcases hk with rfl | rfl <;> omega
    clear hj hj2 hOC hOCz h2 hs2 keep hC h5 hjz hOV hrec hgl hzz hzv hbk hy3
    have hw2 := HD.out _ _ _ HJ2.out
    have y0 := (HSS.out V2 HS3.out).2.1.cell
    have yz := lt_of_heap (HSS.out V2 HS3.out).2.1
    have q0 := (HSS.out V2 HS3.out).1.cell
    have qz := lt_of_heap (HSS.out V2 HS3.out).1
    have k0 := (hbk0.ext hw2).cell
    have kz := lt_of_heap (hbk0.ext hw2)
    have hgw : GrBox V2 bw (wholeG n) := (hw2.b.block _ (lt_of_heap hbw)).trans hbw
    obtain ⟨g0, g1, g2, g3, g4, g5, gz⟩ := hgw.cells
    clear hgw hw2
    obtain ⟨gw, hgw⟩ : ∃ gw, wholeG n = gw := ⟨_, rfl⟩
    rw [hgw] at g0 g1 g2 g3 g4 g5
    have HGW0 := hide hgw
    clear hgw
    by_cases hg : g = gw
    · have hgq := neq_graph g.n g.h0 g.h1 g.h2 g.h3 g.h4 gw.n gw.h0 gw.h1 gw.h2 gw.h3 gw.h4
      rw [show geq ⟨g.n, g.h0, g.h1, g.h2, g.h3, g.h4⟩ ⟨gw.n, gw.h0, gw.h1, gw.h2, gw.h3, gw.h4⟩ = true from geq_iff.2 hg] at hgq
      have HPF : Hid (parF n k key g = [(⟨g, 0⟩, key)]) := by
        show _ = _
        unfold parF
        rw [if_pos (hg.trans HGW0.out.symm), if_pos hkey]
      have HST : Hid (((groupsL n).flatMap (parF n k key))[off]? = some (⟨g, 0⟩, key)) := HIDX.out 0 _ (by rw [HPF.out]; rfl)
      have hle : decide ((key : Int) ≤ (k : Int)) = true := decide_eq_true (by omega)
      have hle2 : (key : Int) ≤ (k : Int) := by omega
      clear hg
      obtain ⟨fn, tmps, assign, body, hy, hR⟩ := HY.out off #[stpV (⟨g, 0⟩, key)] OC V2 (List.getElem?_eq_some_iff.1 HST.out).1 ⟨_, HST.out, rfl⟩ HJ2.out HCZ.out
      have HRR := hide hR
      unfold stpV at hy
      dsimp only at hy
      
      clear hR
      gi_wp2_with fail
      refine ⟨rfl, HRR.out.mono ?_⟩
      rintro e V3 ⟨⟨hko, hsz, hkf⟩, hres⟩
      have hlpB := HLPB.out
      have hKFO : KFO B O V2 V3 := ⟨hkf.up (by omega), fun k hk => hko k (by rw [HOC.out]; exact .inr (.inl hk))⟩
      have HS4 := hide (HSK.out V2 V3 HS3.out fun k hk => hko k (by rw [HOC.out]; exact .inl hk))
      have hgrow : Grow OC (fun k => OB k ∨ O k ∨ ((k = B ∨ k = B + 1) ∧ k < V3.heap.size)) V3 V3 := fun k hk => by
        have hv := HVZ.out
        rcases hk with hk | hk | ⟨hk, h3⟩
        · have h1 : OC k := by rw [HOC.out]; exact .inl hk
          exact ⟨.inl h1, by have := HCZ.out k h1; omega⟩
        · have h1 : OC k := by rw [HOC.out]; exact .inr (.inl hk)
          exact ⟨.inl h1, by have := HCZ.out k h1; omega⟩
        · exact ⟨.inl (by rw [HOC.out]; exact .inr (.inr ⟨hk, HLV.out k hk⟩)), h3⟩
      have hbd : ∀ k, OB k → k < V3.heap.size := fun k hk => by have := HCZ.out k (by rw [HOC.out]; exact .inl hk); omega
      have HKFO := hide hKFO
      have HBD := hide hbd
      have HGW := hide hgrow
      clear hko hkf hKFO hgrow hbd hy HRR y0 yz x0 x1 x2 x3 x4 x5 xz q0 qz k0 kz g0 g1 g2 g3 g4 g5 gz hgq hle hle2
      rcases hres with ⟨rfl, hJ'⟩ | ⟨rfl, hJx'⟩
      · have HJ' := hide (HJ.out _ _ _ _ _ hJ' (Off.refl _ _) HGW.out)
        clear hJ'
        gi_wp2_with fail
        refine ⟨HKFO.out, ⟨?_, HBD.out⟩, HS4.out, HH5.out⟩
        rw [HOFF.out, HPF.out, show ([((⟨g, 0⟩, key) : Stp17)]).length = 1 from rfl]
        exact HJ'.out
      · have HJ' := hide (HJX.out _ _ _ _ hJx' (Off.refl _ _) HGW.out)
        clear hJx'
        gi_wp2_with fail
        exact ⟨HKFO.out, rfl, HJ'.out, HBD.out⟩
    have hgq := neq_graph g.n g.h0 g.h1 g.h2 g.h3 g.h4 gw.n gw.h0 gw.h1 gw.h2 gw.h3 gw.h4
    rw [show geq ⟨g.n, g.h0, g.h1, g.h2, g.h3, g.h4⟩ ⟨gw.n, gw.h0, gw.h1, gw.h2, gw.h3, gw.h4⟩ = false by
      show geq g gw = false
      cases h : geq g gw
      · rfl
      · exact absurd (geq_iff.1 h) hg] at hgq
    have hgn : g ≠ wholeG n := fun e => hg (e.trans HGW0.out)
    clear hg
    by_cases hk1 : key + 1 ≤ k
    · have HPF : Hid (parF n k key g = [(⟨g, 0⟩, key + 1)]) := by
        show _ = _
        unfold parF
        rw [if_neg hgn, if_pos hk1]
      have HST : Hid (((groupsL n).flatMap (parF n k key))[off]? = some (⟨g, 0⟩, key + 1)) := HIDX.out 0 _ (by rw [HPF.out]; rfl)
      have hle : decide ((key : Int) + 1 ≤ (k : Int)) = true := decide_eq_true (by omega)
      have hle2 : (key : Int) + 1 ≤ (k : Int) := by omega
      clear hgn
      obtain ⟨fn, tmps, assign, body, hy, hR⟩ := HY.out off #[stpV (⟨g, 0⟩, key + 1)] OC V2 (List.getElem?_eq_some_iff.1 HST.out).1 ⟨_, HST.out, rfl⟩ HJ2.out HCZ.out
      have HRR := hide hR
      unfold stpV at hy
      dsimp only at hy
      rw [show ((key + 1 : Nat) : Int) = (key : Int) + 1 from by omega] at hy
      clear hR
      gi_wp2_with fail
      refine ⟨rfl, HRR.out.mono ?_⟩
      rintro e V3 ⟨⟨hko, hsz, hkf⟩, hres⟩
      have hlpB := HLPB.out
      have hKFO : KFO B O V2 V3 := ⟨hkf.up (by omega), fun k hk => hko k (by rw [HOC.out]; exact .inr (.inl hk))⟩
      have HS4 := hide (HSK.out V2 V3 HS3.out fun k hk => hko k (by rw [HOC.out]; exact .inl hk))
      have hgrow : Grow OC (fun k => OB k ∨ O k ∨ ((k = B ∨ k = B + 1) ∧ k < V3.heap.size)) V3 V3 := fun k hk => by
        have hv := HVZ.out
        rcases hk with hk | hk | ⟨hk, h3⟩
        · have h1 : OC k := by rw [HOC.out]; exact .inl hk
          exact ⟨.inl h1, by have := HCZ.out k h1; omega⟩
        · have h1 : OC k := by rw [HOC.out]; exact .inr (.inl hk)
          exact ⟨.inl h1, by have := HCZ.out k h1; omega⟩
        · exact ⟨.inl (by rw [HOC.out]; exact .inr (.inr ⟨hk, HLV.out k hk⟩)), h3⟩
      have hbd : ∀ k, OB k → k < V3.heap.size := fun k hk => by have := HCZ.out k (by rw [HOC.out]; exact .inl hk); omega
      have HKFO := hide hKFO
      have HBD := hide hbd
      have HGW := hide hgrow
      clear hko hkf hKFO hgrow hbd hy HRR y0 yz x0 x1 x2 x3 x4 x5 xz q0 qz k0 kz g0 g1 g2 g3 g4 g5 gz hgq hle hle2
      rcases hres with ⟨rfl, hJ'⟩ | ⟨rfl, hJx'⟩
      · have HJ' := hide (HJ.out _ _ _ _ _ hJ' (Off.refl _ _) HGW.out)
        clear hJ'
        gi_wp2_with fail
        refine ⟨HKFO.out, ⟨?_, HBD.out⟩, HS4.out, HH5.out⟩
        rw [HOFF.out, HPF.out, show ([((⟨g, 0⟩, key + 1) : Stp17)]).length = 1 from rfl]
        exact HJ'.out
      · have HJ' := hide (HJX.out _ _ _ _ hJx' (Off.refl _ _) HGW.out)
        clear hJx'
        gi_wp2_with fail
        exact ⟨HKFO.out, rfl, HJ'.out, HBD.out⟩
    · have HPF : Hid (parF n k key g = []) := by
        show _ = _
        unfold parF
        rw [if_neg hgn, if_neg hk1]
      have hle : decide ((key : Int) + 1 ≤ (k : Int)) = false := decide_eq_false (by omega)
      have hle2 : ¬ (key : Int) + 1 ≤ (k : Int) := by omega
      clear hgn
      gi_wp2_with fail
      refine ⟨fun _ h => (by cases h), ?_⟩
      gi_wp2_with fail
      refine ⟨⟨KF.refl _ _, fun _ _ => rfl⟩, ⟨?_, fun k hk => HCZ.out k (by rw [HOC.out]; exact .inl hk)⟩, HS3.out, HH5.out⟩
      rw [HOFF.out, HPF.out]
      refine HJ.out off OC _ V2 V2 HJ2.out (Off.refl _ _) fun k hk => ?_
      rcases hk with hk | hk | ⟨hk, h3⟩
      · have h1 : OC k := by rw [HOC.out]; exact .inl hk
        exact ⟨.inl h1, HCZ.out k h1⟩
      · have h1 : OC k := by rw [HOC.out]; exact .inr (.inl hk)
        exact ⟨.inl h1, HCZ.out k h1⟩
      · exact ⟨.inl (by rw [HOC.out]; exact .inr (.inr ⟨hk, HLV.out k hk⟩)), h3⟩
  · rintro M O V ⟨⟨hj, hjz⟩, -, -⟩ hM hMM
    rw [HBB.out] at hM
    subst hM
    have hz := lt_of_heap hMM
    have hj2 := HJ.out _ _ (fun _ => False) _ (V.putObj M (.deferred none)) hj ⟨rfl, rfl, rfl, by simp, fun k _ hn => World.putObj_heap_other fun e => hn (.inr (.inr ⟨.inl e, by omega⟩))⟩ (fun k hk => hk.elim)
    go_wp2_with fail
    rw [List.take_length] at hj2
    exact leave_mark rfl hMM (results_none rfl _ _ _) ⟨⟨_, rfl⟩, _, .inl hj2⟩
  · rintro M c O V ⟨rfl, hj, hjz⟩ hM hMM
    rw [HBB.out] at hM
    subst hM
    have hz := lt_of_heap hMM
    have hj2 := HJX.out _ (fun _ => False) _ (V.putObj M (.deferred none)) hj ⟨rfl, rfl, rfl, by simp, fun k _ hn => World.putObj_heap_other fun e => hn (.inr (.inr ⟨.inl e, by omega⟩))⟩ (fun k hk => hk.elim)
    go_wp2_with fail
    exact leave_mark rfl hMM (results_none rfl _ _ _) ⟨⟨_, rfl⟩, _, .inr hj2⟩
end Go.Proofs.Ytnhgdjiljjpgmaa
