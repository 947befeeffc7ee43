/-
  The reference's Least of law 20.
  Conditions: as each theorem states.
-/
import Derived.Test.YtmkmgimmlohamaaRInc
namespace Go.Proofs.Ytmkmgimmlohamaa
open Go.RowKit
attribute [local go_sem] Oper.semAt_some

theorem pr_one (x : Int × Int) : ∀ u ∈ pcells x, u.oneCell' = true := by intro u hu; simp only [pcells, List.mem_cons, List.not_mem_nil, or_false] at hu; rcases hu with rfl | rfl <;> rfl
theorem cell_new_p (w : World) (x y : Int) : ∀ j u, (pcells (x, y))[j]? = some u → (w.alloc (.cells #[.int .i64 x, .int .i64 y] 45)).cell? ⟨w.heap.size, j, none⟩ = some u := by
  intro j u h
  rw [cell_new]
  rcases j with _ | _ | j
  · exact h
  · exact h
  · simp [pcells] at h
/-- What the reference's Least returns. -/
def RetLe (A B : Adv) (w : World) (en : Ending) (w' : World) : Prop :=
  ∃ x b, en = .returned (.tuple #[x, .bool b]) ∧ Ext w w' ∧ ((b = false ∧ x = .slice none 0 0 ∧ ∃ u, lackW A B u) ∨ (b = true ∧ (∀ u, ¬ lackW A B u) ∧ ∃ l, Row pcells 2 w' x l ∧ l.Pairwise plt ∧ ∀ p, p ∈ l ↔ rchP A B p))
/-- The nodes' pairs. -/
def ndP (l : List ((Nat × Nat) × List Rd)) : List (Int × Int) := l.map fun p => ((p.1.2 : Int), (p.1.1 : Int))
theorem ndP_reach {A B : Adv} (hA : achk A = 0) (hB : achk B = 0) {l : List ((Nat × Nat) × List Rd)} (h : Full (act := actP dI A B) (0, 0) l) (p : Int × Int) : p ∈ ndP l ↔ rchP A B p := by
  unfold ndP rchP
  rw [List.mem_map]
  constructor
  · rintro ⟨q, hq, rfl⟩
    obtain ⟨h1, h2, h3⟩ := (pathP0 tells_I hA hB q.2 q.1).1 (h.path q hq)
    refine ⟨q.2, h1, h2, ?_⟩
    rw [h3]
    exact Prod.ext (by simp only; omega) (by simp only; omega)
  · rintro ⟨u, h1, h2, rfl⟩
    obtain ⟨q, hq, he⟩ := h.reach _ u _ rfl ((pathP0 tells_I hA hB u _).2 ⟨h1, h2, rfl⟩)
    refine ⟨q, hq, ?_⟩
    rw [he]
    exact Prod.ext (by simp only; omega) (by simp only; omega)
theorem ndP_diff {A B : Adv} {l : List ((Nat × Nat) × List Rd)} (h : Full (act := actP dI A B) (0, 0) l) {i : Nat} (hi : i < l.length) : ((l[i].1.2 : Int), (l[i].1.1 : Int)) ∉ ndP (l.take i) := by
  unfold ndP
  rw [List.mem_map]
  rintro ⟨q, hq, he⟩
  obtain ⟨j, hj, rfl⟩ := List.getElem_of_mem hq
  rw [List.length_take] at hj
  rw [List.getElem_take] at he
  have := List.pairwise_iff_getElem.1 h.diff j i (by omega) hi (by omega)
  rw [Prod.mk.injEq] at he
  exact this (Prod.ext (by omega) (by omega))
/-- The list so far. -/
structure LeS (l : List ((Nat × Nat) × List Rd)) (i : Nat) (L : List (Int × Int)) : Prop where
  len : L.length = i
  asc : L.Pairwise plt
  mem : ∀ p, p ∈ L ↔ p ∈ ndP (l.take i)
theorem LeS.ins {A B : Adv} {l : List ((Nat × Nat) × List Rd)} (hf : Full (act := actP dI A B) (0, 0) l) {i : Nat} {L : List (Int × Int)} (h : LeS l i L) (hi : i < l.length) {k : Nat} (hk : k ≤ L.length)
    (h1 : ∀ j (_ : k ≤ j) (h : j < L.length), plt ((l[i].1.2 : Int), (l[i].1.1 : Int)) L[j]) (h2 : ∀ (_ : 0 < k) (h : k - 1 < L.length), ¬ plt ((l[i].1.2 : Int), (l[i].1.1 : Int)) L[k - 1]) :
    LeS l (i + 1) (L.take k ++ [((l[i].1.2 : Int), (l[i].1.1 : Int))] ++ L.drop k) := by
  have hx : ((l[i].1.2 : Int), (l[i].1.1 : Int)) ∉ L := fun hm => ndP_diff hf hi ((h.mem _).1 hm)
  refine ⟨by rw [ins_len hk, h.len], ins_asc h.asc hx hk h1 h2, fun p => ?_⟩
  rw [ins_mem, h.mem, List.take_succ_eq_append_getElem hi]
  unfold ndP
  rw [List.map_append, List.mem_append]
  simp
/-- A part of a row. -/
theorem row_take {α : Type} {enc : α → List Value} {size : Nat} {w : World} {p : Option Addr} {n c : Nat} {l : List α} (h : Row enc size w (.slice p n c) l) {k : Nat} (hk : k ≤ l.length) : Row enc size w (.slice p k c) (l.take k) := by
  obtain ⟨p', c', hv, h1, ⟨h2, h3⟩, h4⟩ := h
  injection hv with e1 _ e3
  subst e1 e3
  refine ⟨_, c, by rw [List.length_take, Nat.min_eq_left hk], by rw [List.length_take]; omega, ⟨h2, by rw [List.length_take]; omega⟩, fun hp => ?_⟩
  rw [List.length_take] at hp
  obtain ⟨b, o, he, hb, hc⟩ := h4 (by omega)
  refine ⟨b, o, he, hb, fun i x hx j u hu => hc i x ?_ j u hu⟩
  rw [List.getElem?_take] at hx
  split at hx
  · exact hx
  · cases hx
theorem row_drop {α : Type} {enc : α → List Value} {size : Nat} {w : World} {b o n c : Nat} {l : List α} (h : Row enc size w (.slice (some ⟨b, o, none⟩) n c) l) {k : Nat} (hk : k ≤ l.length) : Row enc size w (.slice (if c = k then some ⟨b, o, none⟩ else some ⟨b, o + k * size, none⟩) (n - k) (c - k)) (l.drop k) := by
  obtain ⟨p', c', hv, h1, ⟨h2, h3⟩, h4⟩ := h
  injection hv with e1 e2 e3
  subst e1 e2 e3
  refine ⟨_, c - k, by rw [List.length_drop], by rw [List.length_drop]; omega, ⟨by omega, by rw [List.length_drop]; omega⟩, fun hp => ?_⟩
  rw [List.length_drop] at hp
  obtain ⟨b', o', he, hb, hc⟩ := h4 (by omega)
  injection he with he
  injection he with e1 e2
  subst e1 e2
  rw [if_neg (show ¬ c = k by omega)]
  refine ⟨b, o + k * size, rfl, hb, fun i x hx j u hu => ?_⟩
  rw [List.getElem?_drop] at hx
  have := hc (k + i) x hx j u hu
  rw [Nat.add_mul, ← Nat.add_assoc] at this
  exact this
set_option maxRecDepth 16000 in
set_option maxHeartbeats 8000000 in
theorem rleast_any (A B : Adv) (u v : Value) (w : World) (hA : AdvRep w u A) (hB : AdvRep w v B) (h1 : achk A = 0) (h2 : achk B = 0) :
    Calls Try.prog 39 #[u, v] w (RetLe A B w) := by
  have HS := hide (fun W (hE : Ext w W) => rsearch_any A B u v W (hA.ext hE) (hB.ext hE) h1 h2)
  have HH1 := hide h1
  have HH2 := hide h2
  obtain ⟨p, c, rfl, -⟩ := hA.all_
  obtain ⟨q, d, rfl, -⟩ := hB.all_
  clear hA hB h1 h2
  have HE1 := hide (((Ext.refl w).alloc (.cells #[.int .i64 A.n, .slice p A.L c] 24)).alloc (.cells #[.int .i64 B.n, .slice q B.L d] 24))
  obtain ⟨W1, hW1⟩ : ∃ W1, (w.alloc (.cells #[.int .i64 A.n, .slice p A.L c] 24)).alloc (.cells #[.int .i64 B.n, .slice q B.L d] 24) = W1 := ⟨_, rfl⟩
  rw [hW1] at HE1
  have HW1 := hide hW1
  clear hW1
  go_enter Try.func39, Try.ntmps39
  go_wp2_with fail
  rw [HW1.out]
  refine (HS.out W1 HE1.out).mono ?_
  rintro e w2 ⟨hX, (⟨x, word, rfl, hr, hm, hle⟩ | ⟨y, l, rfl, hn, hf, hfew⟩)⟩
  · have HE2 := hide (HE1.out.trans hX)
    have HL := hide ((markI HH1.out HH2.out word).1 hm)
    clear hX hr hm hle
    go_wp2_with fail
    go_ret2
    exact ⟨_, false, rfl, HE2.out, .inl ⟨rfl, rfl, word, HL.out⟩⟩
  · have HE2 := hide (HE1.out.trans hX)
    have HNO : Hid (∀ u, ¬ lackW A B u) := fun u hu => hf.none_ u ((markI HH1.out HH2.out u).2 hu)
    have HRE := hide (ndP_reach HH1.out HH2.out hf)
    have HINS := hide (fun i L (h : LeS l i L) (hi : i < l.length) k (hk : k ≤ L.length) h1 h2 => h.ins hf hi hk h1 h2)
    have HNC := hide hn
    have hnf : ∃ py cy, y = .slice py l.length cy := by
      rcases hn.form with ⟨rfl, rfl⟩ | ⟨g, cg, rfl, -⟩
      · exact ⟨none, 0, rfl⟩
      · exact ⟨_, _, rfl⟩
    obtain ⟨py, cy, rfl⟩ := hnf
    clear hX hn hf
    go_wp2_with fail
    go_loopw [9, 10, 11, 12] (fun uo vi _ _ wr => ∃ (i : Nat) (L : List (Int × Int)) (po : Option Addr) (co : Nat), vi = .int .i64 i ∧ uo = .slice po i co ∧ i ≤ l.length ∧ Hid (LeS l i L) ∧ Hid (Own pcells 2 wr w2.heap.size 45 (.slice po i co) L) ∧ Ext w2 wr) (fun _ vi _ _ _ => l.length - (intOf vi).toNat)
    case atStart => exact ⟨0, [], none, 0, rfl, rfl, by omega, ⟨rfl, List.Pairwise.nil, fun p => by simp [ndP]⟩, Own.nil _ _ _ (fun _ => rfl), Ext.refl _⟩
    case round =>
      obtain ⟨i, L, po, co, rfl, rfl, hi, HLE, HOW, hE⟩ := hrel
      by_cases hlt : i < l.length
      · have HLEN := hide HLE.out.len
        have d1 : decide (i < l.length) = true := decide_eq_true hlt
        have HPA := hide (HNC.out.at_ (List.getElem?_eq_getElem hlt))
        have HI1 := hide (fun k hk h1 h2 => HINS.out i L HLE.out hlt k hk h1 h2)
        have HPA2 : Hid (∃ g c, (Value.slice py l.length cy) = .slice (some ⟨g, 0, none⟩) l.length c ∧ g < w2.heap.size ∧ ∀ V, Ext w2 V → V.cell? ⟨g, i * 3, none⟩ = some (.int .i64 (l[i].1.2 : Int)) ∧ V.cell? ⟨g, i * 3 + 1, none⟩ = some (.int .i64 (l[i].1.1 : Int))) := by
          obtain ⟨g, cg, vw, hu, hg, -, hcell⟩ := HPA.out
          exact ⟨g, cg, hu, hg, fun V hV => ⟨(hcell V hV).1, (hcell V hV).2.1⟩⟩
        clear HPA
        generalize (l[i].1.2 : Int) = pa at HI1 HPA2
        generalize (l[i].1.1 : Int) = pb at HI1 HPA2
        obtain ⟨g, cg, hu, hg, hcell⟩ := HPA2.out
        injection hu with hu1 _ hu2
        subst hu1 hu2
        have HCELL := hide hcell
        clear hcell HPA2
        have hL2 : i ≤ 65536 := by omega
        have HROW := hide (HOW.out.row (by have := HLEN.out; omega))
        go_wp2_with fail
        generalize hwq : wr = wq at *
        clear hwq
        go_loopw [11] (fun vk wx => ∃ k : Nat, vk = .int .i64 k ∧ k ≤ i ∧ Hid (∀ j (_ : k ≤ j) (h : j < L.length), plt (pa, pb) L[j]) ∧ Ext wq wx) (fun vk _ => (intOf vk).toNat)
        case atStart => exact ⟨i, rfl, by omega, fun j h1 h2 => absurd h2 (by have := HLEN.out; omega), Ext.refl _⟩
        case round =>
          obtain ⟨k, rfl, hk, HK, hEx⟩ := hrel
          have hE2x := hE.trans hEx
          have HOX := hide (HOW.out.ext hEx)
          have gz : ∀ V, Ext wr V → g < V.heap.size := fun V hV => Nat.lt_of_lt_of_le hg (hE2x.trans hV).size
          have c0 : ∀ V, Ext wr V → V.cell? ⟨g, i * 3, none⟩ = some (.int .i64 pa) := fun V hV => (HCELL.out V (hE2x.trans hV)).1
          have c1 : ∀ V, Ext wr V → V.cell? ⟨g, i * 3 + 1, none⟩ = some (.int .i64 pb) := fun V hV => (HCELL.out V (hE2x.trans hV)).2
          rcases Nat.eq_zero_or_pos k with hk0 | hk0
          · have d2 : decide (0 < k) = false := decide_eq_false (by omega)
            have HLX : Hid (LeS l (i + 1) (L.take k ++ [(pa, pb)] ++ L.drop k)) := HI1.out k (by have := HLEN.out; omega) HK.out (fun h => absurd h (by omega))
            have hform : (po = none ∧ co = 0 ∧ L = []) ∨ ∃ b3 o3, po = some ⟨b3, o3, none⟩ ∧ L.length ≤ co := by
              rcases HOX.out.form with ⟨h1, h2⟩ | ⟨b3, c3, h1, _, _, h2, _⟩
              · injection h1 with e1 e2 e3
                exact .inl ⟨e1, e3, h2⟩
              · injection h1 with e1 e2 e3
                exact .inr ⟨b3, 0, e1, by omega⟩
            rcases hform with ⟨rfl, rfl, hL0⟩ | ⟨b3, o3, rfl, hco⟩
            · have HLN := hide hL0
              obtain rfl : i = 0 := by have := HLEN.out; rw [hL0] at this; simpa using this.symm
              subst hk0
              clear hL0
              go_wp2_with fail
              refine wp_region_ext (by kernel_rfl) (by kernel_rfl) ?_
              repeat (go_big_quiet_step (fail))
              refine wpQuiet_nil ?_
              rintro w5 ⟨⟨_, hE5⟩, rfl⟩
              have HE5 := hide hE5
              clear gz c0 c1 d2 hE5 HK HI1
              have HO5 := hide (HOX.out.ext HE5.out)
              have HR5 := hide ((HROW.out.ext hEx).ext HE5.out)
              have HX5 := hide (hE2x.trans HE5.out)
              have HRT := hide (row_take HR5.out (k := 0) (by have := HLEN.out; omega))
              have HRD := hide (show Row pcells 2 w5 (.slice none 0 0) (L.drop 0) from HLN.out ▸ Row.nil _ _ _)
              have hlt1 : L.length ≤ 65536 := by have := HLEN.out; omega
              have hltk : (L.take 0).length ≤ 65536 := by rw [List.length_take]; omega
              have hltd : (L.drop 0).length ≤ 65536 := by rw [List.length_drop]; omega
              go_upto_region 13 with (at_builtin; refine wpList_appendN rfl (.tmp 46) (.tmp 49) 33 rfl w5.heap.size 45 (.agg #[.int .i64 0, .int .i64 0]) 2 16 Try.underlying33 pr_info rfl (by decide) _ [] _ (L.take 0) rfl (Own.nil w5 _ _ (fun _ => rfl)) rfl HRT.out pr_one (by simp only [List.length_nil]; omega) (by decide) (Nat.le_refl _) ?_; intro v6 w6 hown6 hg6)
              have HE6 := hide ((Ext.refl w5).grown hg6 (fun k hk => by cases hk))
              have hown6' : Own pcells 2 w6 w5.heap.size 45 v6 (L.take 0) := hown6
              obtain ⟨p6, c6, hv6⟩ := hown6'.sl
              subst hv6
              have HO6 := hide hown6'
              clear hown6 hg6 hown6'
              have k0 := (HCELL.out w6 (HX5.out.trans HE6.out)).1
              have k1 := (HCELL.out w6 (HX5.out.trans HE6.out)).2
              have kz : g < w6.heap.size := Nat.lt_of_lt_of_le hg (HX5.out.trans HE6.out).size
              have hz6 : w5.heap.size ≤ w6.heap.size := HE6.out.size
              go_upto_region 14 with (at_builtin; refine wpList_append1 rfl (.tmp 51) (.tmp 57) 33 rfl w5.heap.size 45 (.agg #[.int .i64 0, .int .i64 0]) 2 16 Try.underlying33 pr_info rfl (by decide) _ (L.take 0) (pa, pb) w6.heap.size rfl (HO6.out.alloc _) rfl (cell_new_p _ pa pb) (pr_one _) (by omega) (by decide) (by simp only [World.size_alloc]; omega) ?_; intro v7 w7 hown7 hg7 hf7)
              have HE7 := hide ((HE6.out.alloc (.cells #[.int .i64 pa, .int .i64 pb] 45)).grown hg7 (fun k hk => HO6.out.block_ge k hk))
              obtain ⟨p7, c7, hv7⟩ := hown7.sl
              subst hv7
              have HO7 := hide hown7
              clear hown7 hg7 hf7 k0 k1 kz hz6
              have hz7 : w5.heap.size ≤ w7.heap.size := HE7.out.size
              go_wp2_with (at_builtin; refine wpList_appendN rfl (.tmp 59) (.tmp 62) 33 rfl w5.heap.size 45 (.agg #[.int .i64 0, .int .i64 0]) 2 16 Try.underlying33 pr_info rfl (by decide) _ _ _ (L.drop 0) rfl HO7.out rfl (HRD.out.ext HE7.out) pr_one (by rw [List.length_append, List.length_singleton]; omega) (by decide) hz7 ?_; intro v8 w8 hown8 hg8; obtain ⟨p8, c8, hv8⟩ := hown8.sl; rw [HLX.out.len] at hv8; subst hv8)
              have HE8 : Ext w5 w8 := HE7.out.grown hg8 (fun k hk => HO7.out.block_ge k hk)
              go_roundw
              case rel => exact ⟨0 + 1, _, _, c8, by go_num, rfl, by omega, HLX, hown8.mono HX5.out.size, HX5.out.trans HE8⟩
              case measure => simp [intOf]; omega
            · have hkc : k ≤ co := by omega
              clear hk0 hco
              go_wp2_with fail
              refine wp_region_ext (by kernel_rfl) (by kernel_rfl) ?_
              repeat (go_big_quiet_step (fail))
              refine wpQuiet_nil ?_
              rintro w5 ⟨⟨_, hE5⟩, rfl⟩
              have HE5 := hide hE5
              clear gz c0 c1 d2 hE5 HK HI1
              have HO5 := hide (HOX.out.ext HE5.out)
              have HR5 := hide ((HROW.out.ext hEx).ext HE5.out)
              have HX5 := hide (hE2x.trans HE5.out)
              have HRT := hide (row_take HR5.out (k := k) (by have := HLEN.out; omega))
              have HRD := hide (row_drop HR5.out (k := k) (by have := HLEN.out; omega))
              have hlt1 : L.length ≤ 65536 := by have := HLEN.out; omega
              have hltk : (L.take k).length ≤ 65536 := by rw [List.length_take]; omega
              have hltd : (L.drop k).length ≤ 65536 := by rw [List.length_drop]; omega
              go_upto_region 13 with (at_builtin; refine wpList_appendN rfl (.tmp 46) (.tmp 49) 33 rfl w5.heap.size 45 (.agg #[.int .i64 0, .int .i64 0]) 2 16 Try.underlying33 pr_info rfl (by decide) _ [] _ (L.take k) rfl (Own.nil w5 _ _ (fun _ => rfl)) rfl HRT.out pr_one (by simp only [List.length_nil]; omega) (by decide) (Nat.le_refl _) ?_; intro v6 w6 hown6 hg6)
              have HE6 := hide ((Ext.refl w5).grown hg6 (fun k hk => by cases hk))
              have hown6' : Own pcells 2 w6 w5.heap.size 45 v6 (L.take k) := hown6
              obtain ⟨p6, c6, hv6⟩ := hown6'.sl
              subst hv6
              have HO6 := hide hown6'
              clear hown6 hg6 hown6'
              have k0 := (HCELL.out w6 (HX5.out.trans HE6.out)).1
              have k1 := (HCELL.out w6 (HX5.out.trans HE6.out)).2
              have kz : g < w6.heap.size := Nat.lt_of_lt_of_le hg (HX5.out.trans HE6.out).size
              have hz6 : w5.heap.size ≤ w6.heap.size := HE6.out.size
              go_upto_region 14 with (at_builtin; refine wpList_append1 rfl (.tmp 51) (.tmp 57) 33 rfl w5.heap.size 45 (.agg #[.int .i64 0, .int .i64 0]) 2 16 Try.underlying33 pr_info rfl (by decide) _ (L.take k) (pa, pb) w6.heap.size rfl (HO6.out.alloc _) rfl (cell_new_p _ pa pb) (pr_one _) (by omega) (by decide) (by simp only [World.size_alloc]; omega) ?_; intro v7 w7 hown7 hg7 hf7)
              have HE7 := hide ((HE6.out.alloc (.cells #[.int .i64 pa, .int .i64 pb] 45)).grown hg7 (fun k hk => HO6.out.block_ge k hk))
              obtain ⟨p7, c7, hv7⟩ := hown7.sl
              subst hv7
              have HO7 := hide hown7
              clear hown7 hg7 hf7 k0 k1 kz hz6
              have hz7 : w5.heap.size ≤ w7.heap.size := HE7.out.size
              go_wp2_with (at_builtin; refine wpList_appendN rfl (.tmp 59) (.tmp 62) 33 rfl w5.heap.size 45 (.agg #[.int .i64 0, .int .i64 0]) 2 16 Try.underlying33 pr_info rfl (by decide) _ _ _ (L.drop k) rfl HO7.out rfl (HRD.out.ext HE7.out) pr_one (by rw [List.length_append, List.length_singleton]; omega) (by decide) hz7 ?_; intro v8 w8 hown8 hg8; obtain ⟨p8, c8, hv8⟩ := hown8.sl; rw [HLX.out.len] at hv8; subst hv8)
              have HE8 : Ext w5 w8 := HE7.out.grown hg8 (fun k hk => HO7.out.block_ge k hk)
              go_roundw
              case rel => exact ⟨i + 1, _, _, c8, by go_num, rfl, by omega, HLX, hown8.mono HX5.out.size, HX5.out.trans HE8⟩
              case measure => simp [intOf]; omega
          · obtain ⟨m, hm⟩ : ∃ m, k = m + 1 := ⟨k - 1, by omega⟩
            have hmL : m < L.length := by have := HLEN.out; omega
            obtain ⟨p3, c3, hv3, hlc3, -, hat3⟩ := HROW.out.pr_all
            obtain ⟨b3, o3, rfl, hb3, hc3⟩ := hat3 (by omega)
            injection hv3 with e1 e2 e3
            subst e1 e3
            have hkc : k ≤ co := by omega
            clear e2 hlc3
            have hc3' := hc3 m hmL
            have hgd : L.getD m default = L[m] := by rw [List.getD_eq_getElem?_getD, List.getElem?_eq_getElem hmL]; rfl
            rw [hgd] at hc3'
            have HKM : Hid (plt (pa, pb) L[m] → ∀ j (_ : m ≤ j) (h : j < L.length), plt (pa, pb) L[j]) := fun hp j h1 h2 => by
              rcases Nat.eq_or_lt_of_le h1 with rfl | h1
              · exact hp
              · exact HK.out j (by omega) h2
            have HNM : Hid (¬ plt (pa, pb) L[m] → LeS l (i + 1) (L.take k ++ [(pa, pb)] ++ L.drop k)) := fun hp => HI1.out k (by omega) HK.out (fun _ h => by
              have e : k - 1 = m := by omega
              simp only [e]
              exact hp)
            generalize L[m] = x at hc3' HKM HNM
            obtain ⟨xa, xb⟩ := x
            have y0 : ∀ V, Ext wr V → V.cell? ⟨b3, o3 + m * 2, none⟩ = some (.int .i64 xa) := fun V hV => (hc3' V (hEx.trans hV)).1
            have y1 : ∀ V, Ext wr V → V.cell? ⟨b3, o3 + m * 2 + 1, none⟩ = some (.int .i64 xb) := fun V hV => (hc3' V (hEx.trans hV)).2
            have yz : ∀ V, Ext wr V → b3 < V.heap.size := fun V hV => Nat.lt_of_lt_of_le hb3 (hEx.trans hV).size
            have hless := lessB_iff (pa, pb) (xa, xb)
            have HLS := hide (fun W => rless_any pa pb xa xb W)
            have HLB := hide hless
            clear hless hc3 hc3' hat3 hgd
            generalize lessB (pa, pb) (xa, xb) = lb at HLS HLB
            have d2 : decide (0 < k) = true := decide_eq_true (by omega)
            have hwr : IntKind.i64.wrap ((k : Int) - 1) = (m : Int) := by
              rw [show (k : Int) - 1 = (m : Int) by omega]
              exact IntWalk.i64_in _ (by omega)
            have hwr2 : (k : Int) - 1 = (m : Int) := by omega
            have HWR2 := hide hwr2
            have hmi : (m : Int) < (i : Int) := by omega
            have hmk : m < k := by omega
            clear hwr2 hm
            go_wp2_with fail
            refine wp_region_ext (by kernel_rfl) (by kernel_rfl) ?_
            repeat (go_big_quiet_step ((go_at_call 59; exact Calls.ext_of (HLS.out _))))
            refine wpQuiet_nil ?_
            rintro w5 ⟨⟨_, hE5⟩, rfl⟩
            have HE5 := hide hE5
            clear gz c0 c1 y0 y1 yz d2 hE5
            cases lb with
            | true =>
              have HKN := hide (HKM.out (HLB.out.1 rfl))
              go_wp2_with fail
              go_roundw
              case rel => exact ⟨m, by go_num, by omega, HKN, hEx.trans HE5.out⟩
              case measure => simp [intOf]; omega
            | false =>
              have HLX := hide (HNM.out (fun h => by have := HLB.out.2 h; cases this))
              clear HKM HNM HK hwr HI1
              have HO5 := hide (HOX.out.ext HE5.out)
              have HR5 := hide ((HROW.out.ext hEx).ext HE5.out)
              have HX5 := hide (hE2x.trans HE5.out)
              have HRT := hide (row_take HR5.out (k := k) (by have := HLEN.out; omega))
              have HRD := hide (row_drop HR5.out (k := k) (by have := HLEN.out; omega))
              have hlt1 : L.length ≤ 65536 := by have := HLEN.out; omega
              have hltk : (L.take k).length ≤ 65536 := by rw [List.length_take]; omega
              have hltd : (L.drop k).length ≤ 65536 := by rw [List.length_drop]; omega
              go_upto_region 13 with (at_builtin; refine wpList_appendN rfl (.tmp 46) (.tmp 49) 33 rfl w5.heap.size 45 (.agg #[.int .i64 0, .int .i64 0]) 2 16 Try.underlying33 pr_info rfl (by decide) _ [] _ (L.take k) rfl (Own.nil w5 _ _ (fun _ => rfl)) rfl HRT.out pr_one (by simp only [List.length_nil]; omega) (by decide) (Nat.le_refl _) ?_; intro v6 w6 hown6 hg6)
              have HE6 := hide ((Ext.refl w5).grown hg6 (fun k hk => by cases hk))
              have hown6' : Own pcells 2 w6 w5.heap.size 45 v6 (L.take k) := hown6
              obtain ⟨p6, c6, hv6⟩ := hown6'.sl
              subst hv6
              have HO6 := hide hown6'
              clear hown6 hg6 hown6'
              have k0 := (HCELL.out w6 (HX5.out.trans HE6.out)).1
              have k1 := (HCELL.out w6 (HX5.out.trans HE6.out)).2
              have kz : g < w6.heap.size := Nat.lt_of_lt_of_le hg (HX5.out.trans HE6.out).size
              have hz6 : w5.heap.size ≤ w6.heap.size := HE6.out.size
              go_upto_region 14 with (at_builtin; refine wpList_append1 rfl (.tmp 51) (.tmp 57) 33 rfl w5.heap.size 45 (.agg #[.int .i64 0, .int .i64 0]) 2 16 Try.underlying33 pr_info rfl (by decide) _ (L.take k) (pa, pb) w6.heap.size rfl (HO6.out.alloc _) rfl (cell_new_p _ pa pb) (pr_one _) (by omega) (by decide) (by simp only [World.size_alloc]; omega) ?_; intro v7 w7 hown7 hg7 hf7)
              have HE7 := hide ((HE6.out.alloc (.cells #[.int .i64 pa, .int .i64 pb] 45)).grown hg7 (fun k hk => HO6.out.block_ge k hk))
              obtain ⟨p7, c7, hv7⟩ := hown7.sl
              subst hv7
              have HO7 := hide hown7
              clear hown7 hg7 hf7 k0 k1 kz hz6
              have hz7 : w5.heap.size ≤ w7.heap.size := HE7.out.size
              go_wp2_with (at_builtin; refine wpList_appendN rfl (.tmp 59) (.tmp 62) 33 rfl w5.heap.size 45 (.agg #[.int .i64 0, .int .i64 0]) 2 16 Try.underlying33 pr_info rfl (by decide) _ _ _ (L.drop k) rfl HO7.out rfl (HRD.out.ext HE7.out) pr_one (by rw [List.length_append, List.length_singleton]; omega) (by decide) hz7 ?_; intro v8 w8 hown8 hg8; obtain ⟨p8, c8, hv8⟩ := hown8.sl; rw [HLX.out.len] at hv8; subst hv8)
              have HE8 : Ext w5 w8 := HE7.out.grown hg8 (fun k hk => HO7.out.block_ge k hk)
              go_roundw
              case rel => exact ⟨i + 1, _, _, c8, by go_num, rfl, by omega, HLX, hown8.mono HX5.out.size, HX5.out.trans HE8⟩
              case measure => simp [intOf]; omega
      · have hil : i = l.length := by omega
        have HFL : Hid (L.Pairwise plt ∧ ∀ p, p ∈ L ↔ rchP A B p) := ⟨HLE.out.asc, fun p => by rw [HLE.out.mem p, hil, List.take_length]; exact HRE.out p⟩
        have HRW := hide (HOW.out.row (by rw [HLE.out.len]; omega))
        have d1 : decide (i < l.length) = false := decide_eq_false hlt
        clear hil
        go_wp2_with fail
        go_ret2
        exact ⟨_, true, rfl, HE2.out.trans hE, .inr ⟨rfl, HNO.out, L, HRW.out, HFL.out.1, HFL.out.2⟩⟩
end Go.Proofs.Ytmkmgimmlohamaa
