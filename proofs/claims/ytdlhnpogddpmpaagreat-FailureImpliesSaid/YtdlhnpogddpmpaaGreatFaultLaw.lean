/-
  Plain: the rounds of the failure models: their graphs, and that the adversaries are well-formed.
  Conditions: as each theorem states.
-/
import Derived.Test.YtdlhnpogddpmpaaGreatBldLaw
import Derived.Test.YtdlhnpogddpmpaaGreatGSpec
namespace Go.Proofs.YtdlhnpogddpmpaaGreat

/-! ### Graphs by their rows -/
theorem set_n (g : Gr) (p : Nat) (x : Int) : (g.set p x).n = g.n := by
  match p with
  | 0 => rfl
  | 1 => rfl
  | 2 => rfl
  | 3 => rfl
  | 4 => rfl
  | _ + 5 => rfl
theorem gr_ext5 {a b : Gr} (hn : a.n = b.n) (h : ∀ p, p < 5 → a.h p = b.h p) : a = b := by
  have h0 := h 0 (by decide); have h1 := h 1 (by decide); have h2 := h 2 (by decide); have h3 := h 3 (by decide); have h4 := h 4 (by decide)
  obtain ⟨n, a0, a1, a2, a3, a4⟩ := a
  obtain ⟨m, b0, b1, b2, b3, b4⟩ := b
  cases hn; cases h0; cases h1; cases h2; cases h3; cases h4
  rfl
theorem grow_mem {n p : Nat} {ok : Gr → Nat → Nat → Bool} {l : List Gr} {g : Gr} : g ∈ growG n ok p l ↔ ∃ g0 ∈ l, ∃ s : Nat, s < 2 ^ n ∧ ok g0 p s = true ∧ g = g0.set p (s : Int) := by
  unfold growG
  rw [List.mem_flatMap]
  constructor
  · rintro ⟨g0, h0, h⟩
    obtain ⟨s, hs, rfl⟩ := List.mem_map.1 h
    obtain ⟨h1, h2⟩ := List.mem_filter.1 hs
    exact ⟨g0, h0, s, List.mem_range.1 h1, h2, rfl⟩
  · rintro ⟨g0, h0, s, h1, h2, rfl⟩
    exact ⟨g0, h0, List.mem_map.2 ⟨s, List.mem_filter.2 ⟨List.mem_range.2 h1, h2⟩, rfl⟩⟩
def rowsK (n : Nat) (ok : Gr → Nat → Nat → Bool) (k : Nat) : List Gr := (List.range k).foldl (fun l p => growG n ok p l) [gzn n]
theorem rowsK_succ (n : Nat) (ok : Gr → Nat → Nat → Bool) (k : Nat) : rowsK n ok (k + 1) = growG n ok k (rowsK n ok k) := by
  unfold rowsK; rw [List.range_succ, List.foldl_append]; rfl
theorem gzn_h (n p : Nat) (hp : p < 5) : (gzn n).h p = 0 := by
  obtain rfl | rfl | rfl | rfl | rfl : p = 0 ∨ p = 1 ∨ p = 2 ∨ p = 3 ∨ p = 4 := by omega
  all_goals rfl
/-- The graphs whose rows are permitted by a rule that looks at earlier rows alone. -/
theorem rowsK_mem {n : Nat} {ok : Gr → Nat → Nat → Bool} (hok : ∀ (g g' : Gr) (q s : Nat), q < 5 → (∀ r, r < q → g.h r = g'.h r) → ok g q s = ok g' q s) : ∀ k, k ≤ 5 → ∀ g : Gr,
    (g ∈ rowsK n ok k ↔ g.n = n ∧ (∀ q, q < k → ∃ s : Nat, s < 2 ^ n ∧ g.h q = (s : Int) ∧ ok g q s = true) ∧ ∀ q, k ≤ q → q < 5 → g.h q = 0)
  | 0, _, g => by
    show g ∈ [gzn n] ↔ _
    rw [List.mem_singleton]
    constructor
    · rintro rfl
      exact ⟨rfl, fun q h => absurd h (Nat.not_lt_zero q), fun q _ h => gzn_h n q h⟩
    · rintro ⟨h1, _, h2⟩
      exact gr_ext5 h1 fun p hp => by rw [h2 p (Nat.zero_le _) hp, gzn_h n p hp]
  | k + 1, hk, g => by
    rw [rowsK_succ, grow_mem]
    constructor
    · rintro ⟨g0, h0, s, hs, hks, rfl⟩
      obtain ⟨h1, h2, h3⟩ := (rowsK_mem hok k (by omega) g0).1 h0
      refine ⟨by rw [set_n, h1], fun q hq => ?_, fun q hq h5 => ?_⟩
      · by_cases e : q = k
        · subst e
          refine ⟨s, hs, by rw [set_h _ (by omega) _ _ (by omega), if_pos rfl], ?_⟩
          rw [hok _ g0 q s (by omega) fun r hr => by rw [set_h _ (by omega) _ _ (by omega), if_neg (by omega)]]
          exact hks
        · obtain ⟨t, ht, e1, e2⟩ := h2 q (by omega)
          refine ⟨t, ht, by rw [set_h _ (by omega) _ _ (by omega), if_neg e]; exact e1, ?_⟩
          rw [hok _ g0 q t (by omega) fun r hr => by rw [set_h _ (by omega) _ _ (by omega), if_neg (by omega)]]
          exact e2
      · rw [set_h _ (by omega) _ _ h5, if_neg (by omega)]; exact h3 q (by omega) h5
    · rintro ⟨h1, h2, h3⟩
      obtain ⟨s, hs, e1, e2⟩ := h2 k (by omega)
      refine ⟨g.set k 0, (rowsK_mem hok k (by omega) _).2 ⟨by rw [set_n, h1], fun q hq => ?_, fun q hq h5 => ?_⟩, s, hs, ?_, ?_⟩
      · obtain ⟨t, ht, e3, e4⟩ := h2 q (by omega)
        refine ⟨t, ht, by rw [set_h _ (by omega) _ _ (by omega), if_neg (by omega)]; exact e3, ?_⟩
        rw [hok _ g q t (by omega) fun r hr => by rw [set_h _ (by omega) _ _ (by omega), if_neg (by omega)]]
        exact e4
      · rw [set_h _ (by omega) _ _ h5]
        by_cases e : q = k
        · rw [if_pos e]
        · rw [if_neg e]; exact h3 q (by omega) h5
      · rw [hok _ g k s (by omega) fun r hr => by rw [set_h _ (by omega) _ _ (by omega), if_neg (by omega)]]
        exact e2
      · rw [Gr.set_set, ← e1, Gr.set_own g k (by omega)]
theorem rowsK_nodup {n : Nat} {ok : Gr → Nat → Nat → Bool} (hok : ∀ (g g' : Gr) (q s : Nat), q < 5 → (∀ r, r < q → g.h r = g'.h r) → ok g q s = ok g' q s) : ∀ k, k ≤ 5 → (rowsK n ok k).Nodup
  | 0, _ => by show [gzn n].Nodup; simp
  | k + 1, hk => by
    rw [rowsK_succ]
    unfold growG
    have ih := rowsK_nodup (n := n) hok k (by omega)
    refine List.pairwise_flatMap.2 ⟨fun g hg => ?_, ?_⟩
    · refine List.Pairwise.map _ ?_ (List.Pairwise.filter _ List.nodup_range)
      intro a b hab e
      have := congrArg (fun g => Gr.h g k) e
      simp only [set_h _ (show k < 5 by omega) _ k (by omega), if_pos] at this
      exact hab (by exact_mod_cast this)
    · refine List.Pairwise.imp_of_mem ?_ ih
      intro a b ha hb hab x hx y hy e
      obtain ⟨s, _, rfl⟩ := List.mem_map.1 hx
      obtain ⟨t, _, rfl⟩ := List.mem_map.1 hy
      obtain ⟨a1, _, a3⟩ := (rowsK_mem hok k (by omega) a).1 ha
      obtain ⟨b1, _, b3⟩ := (rowsK_mem hok k (by omega) b).1 hb
      refine hab (gr_ext5 (a1.trans b1.symm) fun p hp => ?_)
      by_cases e1 : p = k
      · subst e1; rw [a3 p (Nat.le_refl _) hp, b3 p (Nat.le_refl _) hp]
      · have := congrArg (fun g => Gr.h g p) e
        simp only [set_h _ (show k < 5 by omega) _ p hp, if_neg e1] at this
        exact this
theorem rowsK_len {n M : Nat} {ok : Gr → Nat → Nat → Bool} (h : ∀ g p, p < n → ((List.range (2 ^ n)).filter (ok g p)).length ≤ M) : ∀ k, k ≤ n → (rowsK n ok k).length ≤ M ^ k
  | 0, _ => by show [gzn n].length ≤ _; simp
  | k + 1, hk => by
    rw [rowsK_succ]
    have ih := rowsK_len h k (by omega)
    have : ∀ l : List Gr, (growG n ok k l).length ≤ l.length * M := by
      intro l
      induction l with
      | nil => simp [growG]
      | cons g l ihl =>
        unfold growG at ihl ⊢
        rw [List.flatMap_cons, List.length_append, List.length_map, List.length_cons, Nat.succ_mul]
        have := h g k (by omega)
        omega
    exact Nat.le_trans (this _) (by rw [Nat.pow_succ]; exact Nat.mul_le_mul_right _ ih)
theorem rowsG_K (n : Nat) (ok : Gr → Nat → Nat → Bool) : rowsG n ok = rowsK n ok n := rfl

/-! ### The models of faulty processes -/
/-- The graphs of a round. -/
structure RowG (n : Nat) (P : Nat → Nat → Bool) (g : Gr) : Prop where
  sz : g.n = n
  row : ∀ q, q < n → ∃ s : Nat, s < 2 ^ n ∧ g.h q = (s : Int) ∧ P q s = true
  out : ∀ q, n ≤ q → q < 5 → g.h q = 0
theorem graphsB_mem {r : Rul} {b o : Nat} (h5 : r.n ≤ 5) {g : Gr} : g ∈ graphsB r b o ↔ RowG r.n (rowB r b o) g ∧ fitsB r b o g = true := by
  unfold graphsB
  rw [List.mem_filter, rowsG_K, rowsK_mem (fun _ _ _ _ _ _ => rfl) r.n h5]
  exact ⟨fun ⟨⟨h1, h2, h3⟩, h4⟩ => ⟨⟨h1, h2, h3⟩, h4⟩, fun ⟨⟨h1, h2, h3⟩, h4⟩ => ⟨⟨h1, h2, h3⟩, h4⟩⟩
/-- The steps of a key. -/
theorem edgesF_mem {op n f k : Nat} (hop : 1 ≤ op ∧ op ≤ 4) (h5 : n ≤ 5) {s : Stp17} : s ∈ edgesB ⟨op, n, f⟩ k ↔ ∃ (g : Gr) (o : Nat), s = (⟨g, (o : Nat)⟩, o) ∧ o < 2 ^ n ∧ k &&& o = k ∧ sizeN o ≤ f ∧ RowG n (rowB ⟨op, n, f⟩ k o) g ∧ fitsB ⟨op, n, f⟩ k o g = true := by
  unfold edgesB
  rw [if_neg (show ¬ op = 5 by omega), sortR_mem]
  unfold faultsB
  rw [List.mem_flatMap]
  constructor
  · rintro ⟨o, ho, hs⟩
    split at hs
    · next hc =>
      rw [Bool.and_eq_true, beq_iff_eq, decide_eq_true_eq] at hc
      obtain ⟨g, hg, rfl⟩ := List.mem_map.1 hs
      exact ⟨g, o, rfl, List.mem_range.1 ho, hc.1, hc.2, ((graphsB_mem (r := ⟨op, n, f⟩) h5).1 hg).1, ((graphsB_mem (r := ⟨op, n, f⟩) h5).1 hg).2⟩
    · cases hs
  · rintro ⟨g, o, rfl, h1, h2, h3, h4, h6⟩
    refine ⟨o, List.mem_range.2 h1, ?_⟩
    rw [if_pos (by rw [Bool.and_eq_true, beq_iff_eq, decide_eq_true_eq]; exact ⟨h2, h3⟩)]
    exact List.mem_map.2 ⟨g, (graphsB_mem (r := ⟨op, n, f⟩) h5).2 ⟨h4, h6⟩, rfl⟩
theorem faults_nodup {r : Rul} {b : Nat} (h5 : r.n ≤ 5) : (faultsB r b).Nodup := by
  unfold faultsB
  refine List.pairwise_flatMap.2 ⟨fun o _ => ?_, ?_⟩
  · split
    · refine List.Pairwise.map _ ?_ (List.Pairwise.filter _ (rowsK_nodup (fun _ _ _ _ _ _ => rfl) r.n h5))
      intro a b hab e
      injection e with e _
      injection e with e _
      exact hab e
    · exact List.Pairwise.nil
  · refine List.Pairwise.imp ?_ List.nodup_range
    intro a b hab x hx y hy e
    split at hx
    · split at hy
      · obtain ⟨g, _, rfl⟩ := List.mem_map.1 hx
        obtain ⟨g', _, rfl⟩ := List.mem_map.1 hy
        injection e with _ e
        exact hab e
      · cases hy
    · cases hx
theorem asc_ofR {l : List Stp17} (hn : l.Nodup) (ho : ∀ x ∈ l, ∀ y ∈ l, x.1 = y.1 → x = y) : (sortR l).Pairwise fun x y => rcmp x.1 y.1 < 0 := by
  have h1 := sortR_pw l
  have h2 : (sortR l).Pairwise (· ≠ ·) := (sortR_perm l).nodup_iff.2 hn
  refine List.Pairwise.imp_of_mem ?_ (h1.and h2)
  intro a b ha hb ⟨hab, hne⟩
  have : rcmp a.1 b.1 ≠ 0 := fun e => hne (ho a (sortR_mem.1 ha) b (sortR_mem.1 hb) (rcmp_zero'.1 e))
  unfold Le17 at hab
  omega
theorem has_own {s p : Nat} (_hp : p < 5) (h : bit s p = true) : has (s : Int) p = true := by rw [has_nat]; exact h
theorem rowG_chk {n : Nat} {P : Nat → Nat → Bool} (h1 : 1 ≤ n) (h5 : n ≤ 5) (hP : ∀ q s, P q s = true → bit s q = true) {g : Gr} (hg : RowG n P g) : gchk g = 0 := by
  have hn := hg.sz
  refine gchk_ok (by omega) fun p hp => ?_
  unfold gchkAt
  rw [hn, show (n : Int).toNat = n from rfl]
  rcases Nat.lt_or_ge p n with h | h
  · obtain ⟨s, hs, e1, e2⟩ := hg.row p h
    rw [if_neg (by omega), e1, if_neg, if_pos (has_own hp (hP p s e2))]
    rw [show ((2 : Int) ^ n) = ((2 ^ n : Nat) : Int) by simp]
    generalize 2 ^ n = m at hs ⊢
    omega
  · rw [if_pos (by omega), hg.out p h hp]; rfl
theorem rowB_own {r : Rul} {b o q s : Nat} (h : rowB r b o q s = true) : bit s q = true := by
  unfold rowB at h
  rw [Bool.and_eq_true] at h
  exact h.1
theorem pchk_okN {n o : Nat} (h1 : 1 ≤ n) (h5 : n ≤ 5) (ho : o < 2 ^ n) : pchk n (o : Int) = 0 := by
  unfold pchk
  rw [if_neg (by omega), if_neg]
  rw [show (n : Int).toNat = n from rfl, show ((2 : Int) ^ n) = ((2 ^ n : Nat) : Int) by simp]
  generalize 2 ^ n = m at ho ⊢
  omega
/-- What keys the models have. -/
def KeyF (n f k : Nat) : Prop := k < 2 ^ n ∧ sizeN k ≤ f
theorem keyF_next {op n f : Nat} (hop : 1 ≤ op ∧ op ≤ 4) : ∀ k, KeyF n f k → ∀ s ∈ edgesB ⟨op, n, f⟩ k, KeyF n f s.2 := fun _ _ _ hs => edges_mem hop hs
theorem keyF_zero (n f : Nat) : KeyF n f 0 := ⟨Nat.two_pow_pos _, by have : sizeN 0 = 0 := by decide
                                                                     omega⟩
theorem edges_ne {op n f k : Nat} (hop : 1 ≤ op ∧ op ≤ 4) (h1 : 1 ≤ n) (h4 : n ≤ 4) (hk : KeyF n f k) : edgesB ⟨op, n, f⟩ k ≠ [] := by
  rw [← edges_eq hop h1 h4 hk.1]
  have hne : graphsM (mdlOf ⟨op, n, f⟩) k k ≠ [] := by
    obtain rfl | rfl | rfl | rfl : op = 1 ∨ op = 2 ∨ op = 3 ∨ op = 4 := by omega
    · exact crash_ne n f k
    · exact send_ne n f k
    · exact recv_ne n f k
    · exact omit_ne n f k
  obtain ⟨g, l, hg⟩ := List.exists_cons_of_ne_nil hne
  have : ((⟨g, (k ||| 0 : Nat)⟩, k ||| 0) : Stp17) ∈ stepsM (mdlOf ⟨op, n, f⟩) k := by
    refine List.mem_flatMap.2 ⟨0, zero_sub _, ?_⟩
    rw [Nat.or_zero, if_neg (by rw [(mdlOf_nf (n := n) (f := f) hop).2]; have := hk.2; omega), hg]
    simp
  intro h
  have h2 := sortR_mem.2 this
  rw [h] at h2
  cases h2
theorem inside_table17 : ((List.range 32).all fun a => (List.range 32).all fun b => decide (inside ((a : Nat) : Int) ((b : Nat) : Int) = (a &&& b == a))) = true := by decide +kernel
theorem inside_n17 {a b : Nat} (ha : a < 32) (hb : b < 32) : inside (a : Int) (b : Int) = (a &&& b == a) := by
  have h := inside_table17
  rw [List.all_eq_true] at h
  have h := h a (List.mem_range.2 ha)
  rw [List.all_eq_true] at h
  exact of_decide_eq_true (h b (List.mem_range.2 hb))
theorem faults_good {op n f : Nat} (hop : 1 ≤ op ∧ op ≤ 4) (h1 : 1 ≤ n) (h4 : n ≤ 4) : GoodE (edgesB ⟨op, n, f⟩) (KeyF n f) n where
  ne := fun k hk => edges_ne hop h1 h4 hk
  chk := fun k _ s hs => by
    obtain ⟨g, o, rfl, ho, _, _, hg, _⟩ := (edgesF_mem hop (by omega)).1 hs
    have hc := rowG_chk h1 (by omega) (fun q s h => rowB_own h) hg
    refine ⟨?_, hg.sz⟩
    unfold rchk
    rw [if_pos hc]
    show pchk g.n (o : Int) = 0
    rw [hg.sz]
    exact pchk_okN h1 (by omega) ho
  asc := fun k _ => by
    unfold edgesB
    rw [if_neg (show ¬ op = 5 by omega)]
    refine asc_ofR (faults_nodup (r := ⟨op, n, f⟩) (show n ≤ 5 by omega)) fun x hx y hy e => ?_
    have key : ∀ s ∈ faultsB ⟨op, n, f⟩ k, s.1.f = (s.2 : Int) := fun s hs => by
      have : s ∈ edgesB ⟨op, n, f⟩ k := by
        unfold edgesB
        rw [if_neg (show ¬ op = 5 by omega), sortR_mem]; exact hs
      obtain ⟨g, o, rfl, _⟩ := (edgesF_mem hop (by omega)).1 this
      rfl
    have h1 := key x hx
    have h2 := key y hy
    rw [e] at h1
    exact Prod.ext e (by omega)
  grow := fun k _ s hs t ht => by
    obtain ⟨g, o, rfl, ho, _, _, _, _⟩ := (edgesF_mem hop (by omega)).1 hs
    obtain ⟨g', o', rfl, ho', hoo, _, _, _⟩ := (edgesF_mem hop (by omega)).1 ht
    have := pow32_le (show n ≤ 5 by omega)
    show inside (o : Int) (o' : Int) = true
    rw [inside_n17 (by omega) (by omega), beq_iff_eq]
    exact hoo
theorem keyF_few {n f : Nat} (l : List Nat) (h1 : l.Nodup) (h2 : ∀ k ∈ l, KeyF n f k) : l.length ≤ 2 ^ n := nodup_few (2 ^ n) l h1 fun k hk => (h2 k hk).1
theorem own_few : ((List.range 3).all fun n => (List.range (n + 1)).all fun p => decide (((List.range (2 ^ (n + 1))).filter fun s => s.testBit p).length ≤ 4)) = true := by decide +kernel
theorem filter_le {α : Type} {p q : α → Bool} (h : ∀ a, p a = true → q a = true) : ∀ l : List α, (l.filter p).length ≤ (l.filter q).length
  | [] => by simp
  | a :: l => by
    have ih := filter_le h l
    rw [List.filter_cons, List.filter_cons]
    by_cases hp : p a = true
    · rw [if_pos hp, if_pos (h a hp)]; simpa using ih
    · rw [if_neg hp]
      split
      · rw [List.length_cons]; omega
      · exact ih
theorem edges_len {op n f k : Nat} (hop : 1 ≤ op ∧ op ≤ 4) (h1 : 1 ≤ n) (h3 : n ≤ 3) : (edgesB ⟨op, n, f⟩ k).length ≤ 512 := by
  unfold edgesB
  rw [if_neg (show ¬ op = 5 by omega), (sortR_perm _).length_eq]
  have hg : ∀ o, (graphsB ⟨op, n, f⟩ k o).length ≤ 64 := fun o => by
    refine Nat.le_trans (List.length_filter_le _ _) ?_
    refine Nat.le_trans (rowsK_len (M := 4) (fun g p hp => ?_) n (Nat.le_refl _)) (Nat.pow_le_pow_right (n := 4) (by decide) h3)
    refine Nat.le_trans (filter_le (q := fun s => s.testBit p) (fun s h => rowB_own h) _) ?_
    have t := own_few
    rw [List.all_eq_true] at t
    have t := t (n - 1) (List.mem_range.2 (by omega))
    rw [List.all_eq_true, show n - 1 + 1 = n by omega] at t
    exact of_decide_eq_true (t p (List.mem_range.2 hp))
  have hp : 2 ^ n ≤ 8 := Nat.pow_le_pow_right (n := 2) (by decide) h3
  have : ∀ l : List Nat, (l.flatMap fun o => if (k &&& o == k) && decide (sizeN o ≤ f) then (graphsB ⟨op, n, f⟩ k o).map fun g => ((⟨g, (o : Nat)⟩ : Rd), o) else []).length ≤ l.length * 64 := by
    intro l
    induction l with
    | nil => simp
    | cons o l ih =>
      rw [List.flatMap_cons, List.length_append, List.length_cons, Nat.succ_mul]
      have h2 : (if (k &&& o == k) && decide (sizeN o ≤ f) then (graphsB ⟨op, n, f⟩ k o).map fun g => ((⟨g, (o : Nat)⟩ : Rd), o) else []).length ≤ 64 := by
        split
        · rw [List.length_map]; exact hg o
        · simp
      omega
  refine Nat.le_trans (this _) ?_
  rw [List.length_range]
  show 2 ^ n * 64 ≤ 512
  omega
/-- The adversaries of few processes are found whole. -/
theorem faults_zero {op n f : Nat} (hop : 1 ≤ op ∧ op ≤ 4) (h1 : 1 ≤ n) (h3 : n ≤ 3) : (buildA (edgesB ⟨op, n, f⟩) n).2 = 0 := by
  have hp : 2 ^ n ≤ 8 := Nat.pow_le_pow_right (n := 2) (by decide) h3
  refine buildA_zero (K := KeyF n f) (M := 512) (L := 8) (keyF_zero n f) (keyF_next hop) (fun k _ => edges_len hop h1 h3) (fun l a b => Nat.le_trans (keyF_few l a b) hp) (by decide) (by decide)
/-- What is known of such an adversary. -/
structure FaultA (op n f : Nat) (A : Adv) : Prop where
  eq : mdlA op n f = (A, 0)
  sz : A.n = n
  chk : achk A = 0
  found : ∃ ks, Built (edgesB ⟨op, n, f⟩) (KeyF n f) n A ks
  mv : movesN A ≤ 4096
  allows : ∀ l, (0 ≤ after A 0 l ↔ Chain (edgesB ⟨op, n, f⟩) 0 l)
theorem faultA {op n f : Nat} (hop : 1 ≤ op ∧ op ≤ 4) (h1 : 1 ≤ n) (h3 : n ≤ 3) (hf : f ≤ n) : ∃ A, FaultA op n f A := by
  have hz := faults_zero (f := f) hop h1 h3
  obtain ⟨ks, hb⟩ := buildA_built (keyF_zero n f) (keyF_next hop) hz
  have hG := faults_good (f := f) hop h1 (show n ≤ 4 by omega)
  have hp : 2 ^ n ≤ 8 := Nat.pow_le_pow_right (n := 2) (by decide) h3
  have hL : ks.length ≤ 256 := Nat.le_trans (keyF_few ks hb.inv.nd hb.inv.all) (by omega)
  have hc := hb.chk hG h1 (by omega) hL
  refine ⟨(buildA (edgesB ⟨op, n, f⟩) n).1, ?_, hb.n, hc, ⟨ks, hb⟩, hb.inv.few, fun l => hb.allows hG.one l⟩
  rw [mdlA_eq hop (by omega)]
  unfold refA
  rw [if_neg (by omega), Int.toNat_natCast, Int.toNat_natCast]
  exact Prod.ext rfl hz
/-- A greater number permits more. -/
theorem chain_more {op n f f' : Nat} (hop : 1 ≤ op ∧ op ≤ 4) (h5 : n ≤ 5) (hf : f ≤ f') (l : List Rd) (h : Chain (edgesB ⟨op, n, f⟩) 0 l) : Chain (edgesB ⟨op, n, f'⟩) 0 l := by
  refine Chain.mono (K := KeyF n f) (keyF_next hop) (fun k hk s hs => ?_) l 0 (keyF_zero n f) h
  obtain ⟨g, o, rfl, h1, h2, h3, h4, h6⟩ := (edgesF_mem hop h5).1 hs
  exact (edgesF_mem hop h5).2 ⟨g, o, rfl, h1, h2, Nat.le_trans h3 hf, h4, h6⟩
end Go.Proofs.YtdlhnpogddpmpaaGreat
