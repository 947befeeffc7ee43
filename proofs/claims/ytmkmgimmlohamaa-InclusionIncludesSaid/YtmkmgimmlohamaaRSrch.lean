/-
  The reference's search of law 20: nodes, longer, has, search.
  Conditions: as each theorem states.
-/
import Derived.Test.YtmkmgimmlohamaaIncC
import Derived.Test.YtmkmgimmlohamaaAdvRef4
namespace Go.Proofs.Ytmkmgimmlohamaa
open Go.RowKit
attribute [local go_sem] Oper.semAt_some

def ndc (n : (Int × Int) × Value) : List Value := [.int .i64 n.1.1, .int .i64 n.1.2, n.2]
/-- The nodes of a search, in a block of the call's own. -/
def NodeC (W : World) (base : Nat) (u : Value) (l : List ((Nat × Nat) × List Rd)) : Prop :=
  ∃ ns : List ((Int × Int) × Value), ns.length = l.length ∧ Own ndc 3 W base 113 u ns ∧
    ∀ (i : Nat) (n : (Int × Int) × Value) (p : (Nat × Nat) × List Rd), ns[i]? = some n → l[i]? = some p → n.1 = ((p.1.2 : Int), (p.1.1 : Int)) ∧ RowE 43 Rd.cells 7 W n.2 p.2
section
variable {W : World} {base : Nat} {u : Value} {l : List ((Nat × Nat) × List Rd)}
theorem NodeC.ext {V : World} (h : NodeC W base u l) (hE : Ext W V) : NodeC V base u l := by
  obtain ⟨ns, h1, h2, h3⟩ := h
  exact ⟨ns, h1, h2.ext hE, fun i n p hn hp => ⟨(h3 i n p hn hp).1, (h3 i n p hn hp).2.ext hE⟩⟩
theorem NodeC.mono {b : Nat} (h : NodeC W base u l) (hb : b ≤ base) : NodeC W b u l := by
  obtain ⟨ns, h1, h2, h3⟩ := h
  exact ⟨ns, h1, h2.mono hb, h3⟩
theorem NodeC.block_ge (h : NodeC W base u l) : ∀ k, u.ownBlock = some k → base ≤ k := by
  obtain ⟨ns, h1, h2, h3⟩ := h
  exact h2.block_ge
theorem NodeC.at_ (h : NodeC W base u l) {i : Nat} {p : (Nat × Nat) × List Rd} (hp : l[i]? = some p) :
    ∃ g c v, u = .slice (some ⟨g, 0, none⟩) l.length c ∧ g < W.heap.size ∧ RowE 43 Rd.cells 7 W v p.2 ∧ ∀ V, Ext W V → V.cell? ⟨g, i * 3, none⟩ = some (.int .i64 p.1.2) ∧ V.cell? ⟨g, i * 3 + 1, none⟩ = some (.int .i64 p.1.1) ∧ V.cell? ⟨g, i * 3 + 2, none⟩ = some v := by
  obtain ⟨ns, h1, h2, h3⟩ := h
  have hi : i < l.length := by
    rcases Nat.lt_or_ge i l.length with hh | hh
    · exact hh
    · rw [List.getElem?_eq_none hh] at hp; cases hp
  have hn : ns[i]? = some ns[i] := List.getElem?_eq_getElem (by omega)
  obtain ⟨e1, e2⟩ := h3 i _ p hn hp
  rcases h2.form with ⟨_, hb⟩ | ⟨g, c, rfl, hb, hlt, _⟩
  · subst hb; simp at h1; omega
  · refine ⟨g, c, ns[i].2, by rw [h1], hlt, e2, fun V hV => ?_⟩
    have key : ∀ j x, j < 3 → (ndc ns[i])[j]? = some x → V.cell? ⟨g, i * 3 + j, none⟩ = some x := fun j x hj hx => by
      have hf := flat_get (enc := ndc) (size := 3) (fun _ => rfl) ns i j _ hn hj
      have := (h2.ext hV).2.cells (g := g) rfl (i * 3 + j) x (by rw [hf]; exact hx)
      rw [add_lit] at this
      exact this
    have k0 := key 0 _ (by omega) rfl
    have k1 := key 1 _ (by omega) rfl
    have k2 := key 2 _ (by omega) rfl
    rw [e1] at k0 k1
    exact ⟨k0, k1, k2⟩
theorem NodeC.row (h : NodeC W base u l) (hl : l.length ≤ 17592186044416) : ∃ ns, Row ndc 3 W u ns ∧ ∀ q : Nat × Nat, (∃ n ∈ ns, n.1 = ((q.2 : Int), (q.1 : Int))) ↔ ∃ p ∈ l, p.1 = q := by
  obtain ⟨ns, h1, h2, h3⟩ := h
  refine ⟨ns, h2.row (by omega), fun q => ⟨?_, ?_⟩⟩
  · rintro ⟨n, hn, he⟩
    obtain ⟨i, hi, rfl⟩ := List.getElem_of_mem hn
    have hi' : i < l.length := by omega
    have := (h3 i _ _ (List.getElem?_eq_getElem hi) (List.getElem?_eq_getElem hi')).1
    rw [this] at he
    refine ⟨l[i], List.getElem_mem hi', ?_⟩
    rw [Prod.mk.injEq] at he
    exact Prod.ext (by omega) (by omega)
  · rintro ⟨p, hp, rfl⟩
    obtain ⟨i, hi, rfl⟩ := List.getElem_of_mem hp
    have hi' : i < ns.length := by omega
    exact ⟨ns[i], List.getElem_mem hi', (h3 i _ _ (List.getElem?_eq_getElem hi') (List.getElem?_eq_getElem hi)).1⟩
theorem NodeC.form (h : NodeC W base u l) : (u = .slice none 0 0 ∧ l = []) ∨ ∃ g c, u = .slice (some ⟨g, 0, none⟩) l.length c ∧ base ≤ g ∧ g < W.heap.size ∧ l.length ≤ c ∧ c ≤ 9223372036854775807 := by
  obtain ⟨ns, h1, h2, h3⟩ := h
  rcases h2.form with ⟨ha, hb⟩ | hb
  · subst hb; exact .inl ⟨ha, List.eq_nil_of_length_eq_zero h1.symm⟩
  · rw [h1] at hb; exact .inr hb
end
theorem node_info : (Try.prog.info? 113).map (fun i => (i.zero, i.size, i.bytes)) = some (some (.agg #[.int .i64 0, .int .i64 0, .slice none 0 0]), 3, 40) := by kernel_rfl
theorem NodeC.start (W : World) : NodeC (W.alloc (.cells #[.int .i64 0, .int .i64 0, .slice none 0 0] 113)) W.heap.size (.slice (some ⟨W.heap.size, 0, none⟩) 1 1) [((0, 0), [])] := by
  refine ⟨[((0, 0), .slice none 0 0)], rfl, ⟨fun _ => rfl, rfl, .inr ⟨W.heap.size, 1, #[.int .i64 0, .int .i64 0, .slice none 0 0], rfl, Nat.le_refl _, heap_alloc_new W _, Nat.le_refl _, by unfold maxLen; omega, rfl, rfl⟩⟩, fun i n p hn hp => ?_⟩
  cases i with
  | zero =>
    simp only [List.getElem?_cons_zero, Option.some.injEq] at hn hp
    subst hn hp
    exact ⟨rfl, RowE.nil _ _ _ _⟩
  | succ i => simp at hn
theorem cell_new_n (w : World) (x y : Int) (v : Value) : ∀ j u, (ndc ((x, y), v))[j]? = some u → (w.alloc (.cells #[.int .i64 x, .int .i64 y, v] 113)).cell? ⟨w.heap.size, j, none⟩ = some u := by
  intro j u h
  rw [cell_new]
  rcases j with _ | _ | _ | j
  · exact h
  · exact h
  · exact h
  · simp [ndc] at h
/-- append of a node. -/
theorem wpList_pushN {ops : Array Oper} {rest : List Oper} {o : Oper} {a : Act} {w : World} {Q : Exit → Act → World → Prop} (hgd : o.guard = none) (s x : Operand)
    (ho : o.op = .call { callee := .builtin .append, args := #[s, x], argTypes := #[104, 104] })
    (base : Nat) (u : Value) (l : List ((Nat × Nat) × List Rd)) (q : Nat × Nat) (v : Value) (word : List Rd) (g : Nat) (hs : a.eval s = u) (hown : NodeC w base u l) (hx : a.eval x = .slice (some ⟨g, 0, none⟩) 1 1)
    (hnew : ∀ j z, (ndc (((q.2 : Int), (q.1 : Int)), v))[j]? = some z → w.cell? ⟨g, j, none⟩ = some z) (hy : RowE 43 Rd.cells 7 w v word) (hlen : l.length ≤ 1000000000000) (hbase : base ≤ w.heap.size)
    (h : ∀ v' w', NodeC w' base v' (l ++ [(q, word)]) → w.grownBy w' u.ownBlock → (∃ g' c', v' = .slice (some ⟨g', 0, none⟩) (l.length + 1) c' ∧ (u.ownBlock = some g' ∨ g' = w.heap.size)) → wpList Try.prog ops Q rest (a.put o.dst v') w') : wpList Try.prog ops Q (o :: rest) a w := by
  obtain ⟨ns, h1, h2, h3⟩ := hown
  have hvc : v.oneCell' = true := by obtain ⟨⟨p, c, rfl, _⟩, _⟩ := hy; rfl
  refine wpList_append1 hgd s x 104 ho base 113 _ 3 40 Try.underlying104 node_info rfl (by decide) u ns (((q.2 : Int), (q.1 : Int)), v) g hs h2 hx hnew (by
    intro z hz
    simp only [ndc, List.mem_cons, List.not_mem_nil, or_false] at hz
    rcases hz with rfl | rfl | rfl
    · rfl
    · rfl
    · exact hvc) (by omega) (by decide) hbase ?_
  intro v' w' hown' hg hform
  have hty := h2.typed
  refine h v' w' ⟨ns ++ [(((q.2 : Int), (q.1 : Int)), v)], by simp [h1], hown', fun i n p hn hp => ?_⟩ hg (by rw [← h1]; exact hform)
  by_cases hlt : i < ns.length
  · rw [List.getElem?_append_left hlt] at hn
    rw [List.getElem?_append_left (by omega)] at hp
    exact ⟨(h3 i n p hn hp).1, (h3 i n p hn hp).2.grown hg hty (by decide)⟩
  · rw [List.getElem?_append_right (by omega)] at hn
    rw [List.getElem?_append_right (by omega)] at hp
    rcases Nat.eq_zero_or_pos (i - ns.length) with h0 | h0
    · rw [h0] at hn
      rw [show i - l.length = 0 by omega] at hp
      simp only [List.getElem?_cons_zero, Option.some.injEq] at hn hp
      subst hn hp
      exact ⟨rfl, hy.grown hg hty (by decide)⟩
    · rw [List.getElem?_eq_none (by simp; omega)] at hn; cases hn
/-- The nodes as a row. -/
theorem Row.nd_all {w : World} {v : Value} {ms : List ((Int × Int) × Value)} (h : Row ndc 3 w v ms) :
    ∃ (p : Option Addr) (c : Nat), v = .slice p ms.length c ∧ ms.length ≤ c ∧ ms.length ≤ 17592186044416 ∧
      (0 < ms.length → ∃ b o, p = some ⟨b, o, none⟩ ∧ b < w.heap.size ∧ ∀ i, i < ms.length → ∀ W, Ext w W → W.cell? ⟨b, o + i * 3, none⟩ = some (.int .i64 (ms.getD i ((0, 0), undef)).1.1) ∧ W.cell? ⟨b, o + i * 3 + 1, none⟩ = some (.int .i64 (ms.getD i ((0, 0), undef)).1.2)) := by
  obtain ⟨p, c, hv, h2, h3, h4⟩ := h
  refine ⟨p, c, hv, h2, by omega, fun hl => ?_⟩
  obtain ⟨b, o, hp, hb, hc⟩ := h4 hl
  refine ⟨b, o, hp, hb, fun i hi W hE => ?_⟩
  have hx : ms[i]? = some (ms.getD i ((0, 0), undef)) := by rw [List.getD_eq_getElem?_getD, List.getElem?_eq_getElem hi]; rfl
  have h0 := hc i _ hx 0 _ rfl
  have h1 := hc i _ hx 1 _ rfl
  rw [Nat.add_zero] at h0
  exact ⟨(hE.cell hb).trans h0, (hE.cell hb).trans h1⟩
set_option maxHeartbeats 1000000 in
theorem rhasn_any (l : List ((Int × Int) × Value)) (x y : Int) (u : Value) (w : World) (hl : Row ndc 3 w u l) :
    Calls Try.prog 73 #[u, .agg #[.int .i64 x, .int .i64 y]] w fun e w' => e = .returned (.bool (decide (∃ n ∈ l, n.1 = (x, y)))) ∧ Ext w w' := by
  obtain ⟨p, c, rfl, hc, hll, hat⟩ := hl.nd_all
  have HA := hide hat
  clear hl hat
  have hbx := heap_alloc_new w (.cells #[.int .i64 x, .int .i64 y] 45)
  have HB := hide hbx
  have HE := hide ((Ext.refl w).alloc (.cells #[.int .i64 x, .int .i64 y] 45))
  have H1 : Hid (∀ i, i < l.length → (l.getD i ((0, 0), undef)).1 = (x, y) → decide (∃ n ∈ l, n.1 = (x, y)) = true) := fun i hi h => decide_eq_true ⟨l[i], List.getElem_mem hi, by rwa [List.getD_eq_getElem?_getD, List.getElem?_eq_getElem hi] at h⟩
  have H2 : Hid ((∀ i, i < l.length → (l.getD i ((0, 0), undef)).1 ≠ (x, y)) → decide (∃ n ∈ l, n.1 = (x, y)) = false) := fun h => decide_eq_false fun ⟨n, hm, he⟩ => by
    obtain ⟨i, hi, rfl⟩ := List.getElem_of_mem hm
    exact h i hi (by rw [List.getD_eq_getElem?_getD, List.getElem?_eq_getElem hi]; exact he)
  clear hbx
  generalize decide (∃ n ∈ l, n.1 = (x, y)) = res at H1 H2 ⊢
  generalize l.length = ln at *
  generalize hf : l.getD = f at *
  clear hf
  go_enter Try.func73, Try.ntmps73
  go_wp2_with fail
  generalize w.alloc (.cells #[.int .i64 x, .int .i64 y] 45) = w1 at HB HE ⊢
  go_loopw [5] (fun v wr => ∃ i : Nat, i ≤ ln ∧ v = .int .i64 i ∧ (∀ j, j < i → (f j ((0, 0), undef)).1 ≠ (x, y)) ∧ Ext w1 wr) (fun v _ => ln - (intOf v).toNat)
  case atStart => exact ⟨0, by omega, rfl, fun j hj => by omega, Ext.refl _⟩
  case round =>
    obtain ⟨i, hi, rfl, hj, hE⟩ := hrel
    have HJ := hide hj
    clear hj
    have hEr := HE.out.trans hE
    have hb1 := (hE.b.block _ (lt_of_heap HB.out)).trans HB.out
    have y0 : ∀ W, Ext wr W → W.cell? ⟨w.heap.size, 0, none⟩ = some (.int .i64 x) := fun W hW => dcell ((hW.b.block _ (lt_of_heap hb1)).trans hb1) 0
    have y1 : ∀ W, Ext wr W → W.cell? ⟨w.heap.size, 1, none⟩ = some (.int .i64 y) := fun W hW => dcell ((hW.b.block _ (lt_of_heap hb1)).trans hb1) 1
    have yz : ∀ W, Ext wr W → w.heap.size < W.heap.size := fun W hW => lt_of_heap ((hW.b.block _ (lt_of_heap hb1)).trans hb1)
    by_cases hlt : i < ln
    · obtain ⟨b1, o1, rfl, hbz, hat⟩ := HA.out (by omega)
      have HX := hide (hat i hlt)
      have hbz2 : ∀ W, Ext wr W → b1 < W.heap.size := fun W hW => Nat.lt_of_lt_of_le hbz (hEr.trans hW).size
      have HY := hide (H1.out i hlt)
      have HN : Hid ((f i ((0, 0), undef)).1 ≠ (x, y) → ∀ j, j < i + 1 → (f j ((0, 0), undef)).1 ≠ (x, y)) := fun h j hj => by
        by_cases e : j = i
        · subst e; exact h
        · exact HJ.out j (by omega)
      clear hat
      generalize (f i ((0, 0), undef)).1 = m at HX HY HN
      obtain ⟨m1, m2⟩ := m
      have HQ : Hid ((m1 == x && m2 == y) = true ↔ ((m1, m2) : Int × Int) = (x, y)) := by
        show _ ↔ _
        rw [Bool.and_eq_true, beq_iff_eq, beq_iff_eq, Prod.mk.injEq]
      have heq := peq_pair m1 m2 x y
      have x0 : ∀ W, Ext wr W → W.cell? ⟨b1, o1 + i * 3, none⟩ = some (.int .i64 m1) := fun W hW => (HX.out W (hEr.trans hW)).1
      have x1 : ∀ W, Ext wr W → W.cell? ⟨b1, o1 + i * 3 + 1, none⟩ = some (.int .i64 m2) := fun W hW => (HX.out W (hEr.trans hW)).2
      generalize (m1 == x && m2 == y) = g at heq HQ
      clear HX hbz hb1
      go_wp2_with fail
      refine wp_region_ext (by kernel_rfl) (by kernel_rfl) ?_
      repeat (go_big_quiet_step (fail))
      refine wpQuiet_nil ?_
      rintro w9 ⟨⟨_, hE9⟩, rfl⟩
      clear heq x0 x1 y0 y1 yz hbz2
      cases g
      · have HR := hide (HN.out (fun h => by have := HQ.out.2 h; cases this))
        go_wp2
        go_roundw
        case rel => exact ⟨i + 1, by omega, by go_num, HR.out, hE.trans hE9⟩
        case measure => simp [intOf]; omega
      · have HR := hide (HY.out (HQ.out.1 rfl))
        go_wp2
        go_ret
        exact ⟨ret_bool HR.out.symm, hEr.trans hE9⟩
    · obtain rfl : i = ln := by omega
      have HR := hide (H2.out HJ.out)
      clear y0 y1 yz
      go_wp2_with fail
      go_ret
      exact ⟨ret_bool HR.out.symm, hEr⟩
theorem rsinfo : (Try.prog.info? 43).map (fun i => (i.zero, i.size, i.bytes)) = some (some (Rd.v default), 7, 56) := by kernel_rfl
theorem rs_one (x : Rd) : ∀ u ∈ Rd.cells x, u.oneCell' = true := by intro u hu; simp only [List.mem_cons, List.not_mem_nil, or_false] at hu; rcases hu with rfl | rfl | rfl | rfl | rfl | rfl | rfl <;> rfl
theorem rs_new (w : World) (r : Rd) : ∀ j u, (Rd.cells r)[j]? = some u → (w.alloc (.cells #[.int .i64 r.g.n, .int .i64 r.g.h0, .int .i64 r.g.h1, .int .i64 r.g.h2, .int .i64 r.g.h3, .int .i64 r.g.h4, .int .i64 r.f] 43)).cell? ⟨w.heap.size, j, none⟩ = some u := by
  intro j u h
  rw [cell_new]
  rcases j with _ | _ | _ | _ | _ | _ | _ | j
  · exact h
  · exact h
  · exact h
  · exact h
  · exact h
  · exact h
  · exact h
  · simp at h
set_option maxRecDepth 16000 in
set_option maxHeartbeats 1000000 in
theorem rlonger_any (l : List Rd) (r : Rd) (u : Value) (w : World) (hl : Row Rd.cells 7 w u l) (hlen : l.length ≤ 1000000) :
    Calls Try.prog 72 #[u, r.v] w fun e w' => ∃ v, e = .returned v ∧ Own Rd.cells 7 w' w.heap.size 43 v (l ++ [r]) ∧ Ext w w' := by
  have HL := hide hl
  obtain ⟨p, c, rfl, -⟩ := hl
  obtain ⟨⟨n, a, b', c', d', e'⟩, f⟩ := r
  have HNR : Hid (∀ W : World, ∀ j u, (Rd.cells ⟨⟨n, a, b', c', d', e'⟩, f⟩)[j]? = some u → (W.alloc (.cells #[.int .i64 n, .int .i64 a, .int .i64 b', .int .i64 c', .int .i64 d', .int .i64 e', .int .i64 f] 43)).cell? ⟨W.heap.size, j, none⟩ = some u) := fun W => rs_new W ⟨⟨n, a, b', c', d', e'⟩, f⟩
  have HBX := hide (heap_alloc_new w (.cells #[.int .i64 n, .int .i64 a, .int .i64 b', .int .i64 c', .int .i64 d', .int .i64 e', .int .i64 f] 43))
  have HE := hide ((Ext.refl w).alloc (.cells #[.int .i64 n, .int .i64 a, .int .i64 b', .int .i64 c', .int .i64 d', .int .i64 e', .int .i64 f] 43))
  obtain ⟨W1, hW1⟩ : ∃ W1, w.alloc (.cells #[.int .i64 n, .int .i64 a, .int .i64 b', .int .i64 c', .int .i64 d', .int .i64 e', .int .i64 f] 43) = W1 := ⟨_, rfl⟩
  rw [hW1] at HBX HE
  have HW1 := hide hW1
  clear hW1
  go_enter Try.func72, Try.ntmps72
  dsimp only [Rd.v]
  go_upto_region 2 with fail
  rw [HW1.out]
  have hz1 : w.heap.size + 1 ≤ W1.heap.size := by rw [← HW1.out]; simp
  have hzB : w.heap.size < W1.heap.size := by omega
  have tok : True := trivial
  go_wp2_with (first
    | (at_builtin
       have _t := tok
       refine wpList_appendN rfl (.tmp 6) (.tmp 7) 27 rfl (w.heap.size + 1) 43 (Rd.v default) 7 56 Try.underlying27 rsinfo rfl (by decide) _ [] _ l rfl (Own.nil W1 _ _ (fun _ => rfl)) rfl (HL.out.ext HE.out) rs_one (by simp; omega) (by decide) hz1 ?_
       intro v' W2 hown' hg
       clear tok
       have hb2 : W2.heap[w.heap.size]? = some (.cells #[.int .i64 n, .int .i64 a, .int .i64 b', .int .i64 c', .int .i64 d', .int .i64 e', .int .i64 f] 43 (0, 0)) := (hg.block _ hzB (fun he => by cases he)).trans HBX.out
       have t0 := dcell hb2 0
       have t1 := dcell hb2 1
       have t2 := dcell hb2 2
       have t3 := dcell hb2 3
       have t4 := dcell hb2 4
       have t5 := dcell hb2 5
       have t6 := dcell hb2 6
       have tz := lt_of_heap hb2
       have hE2 : Ext w W2 := HE.out.grown hg (fun k hk => by cases hk)
       have hzz2 : w.heap.size + 1 ≤ W2.heap.size := by have := hg.size; omega
       obtain ⟨pv, cv, hvv⟩ := hown'.sl
       rw [List.nil_append] at hvv
       subst hvv)
    | (at_builtin
       refine wpList_append1 rfl (.tmp 9) (.tmp 11) 27 rfl (w.heap.size + 1) 43 (Rd.v default) 7 56 Try.underlying27 rsinfo rfl (by decide) _ ([] ++ l) ⟨⟨n, a, b', c', d', e'⟩, f⟩ W2.heap.size rfl (hown'.alloc _) rfl (HNR.out W2) (rs_one _) (by simp; omega) (by decide) (by simp; omega) ?_
       intro v'' W3 hown'' hg' hform''))
  have hE3 : Ext w W3 := (hE2.alloc _).grown hg' (fun k hk => by have := hown'.block_ge k hk; omega)
  go_wp2_with fail
  go_ret
  exact ⟨_, rfl, by rw [List.nil_append] at hown''; exact hown''.mono (by omega), hE3⟩
/-- The search: the nodes found, the node that is visited (number i), and how many of its moves are done. -/
structure BkS (A B : Adv) (l : List ((Nat × Nat) × List Rd)) (i k : Nat) (p : (Nat × Nat) × List Rd) : Prop where
  at_ : l[i]? = some p
  bfs : Bfs (act := actP dI A B) (0, 0) l i ((actP dI A B p.1).take k) ((actP dI A B p.1).drop k)
  inb : ∀ q ∈ l, q.1.1 < A.L ∧ q.1.2 < B.L
  len : ∀ q ∈ l, q.2.length ≤ l.length
theorem BkS.start {A B : Adv} (hA : achk A = 0) (hB : achk B = 0) : BkS A B [((0, 0), [])] 0 0 ((0, 0), []) where
  at_ := rfl
  bfs := Bfs.start (0, 0)
  inb := fun q hq => by
    simp only [List.mem_singleton] at hq
    subst hq
    exact ⟨(achk_zero hA).2.2.1, (achk_zero hB).2.2.1⟩
  len := fun q hq => by simp only [List.mem_singleton] at hq; subst hq; simp
section
variable {A B : Adv} {l : List ((Nat × Nat) × List Rd)} {i k : Nat} {p : (Nat × Nat) × List Rd}
theorem BkS.here (h : BkS A B l i k p) : i < l.length := h.bfs.here
theorem BkS.mem (h : BkS A B l i k p) : p ∈ l := List.mem_of_getElem? h.at_
theorem BkS.p_in (h : BkS A B l i k p) : p.1.1 < A.L ∧ p.1.2 < B.L := h.inb p h.mem
theorem actP_get (hA : achk A = 0) (hB : achk B = 0) (s : Nat × Nat) (hk : k < B.len s.2) : (actP dI A B s)[k]? = some ((B.mv s.2 k).r, if toL (A.st.getD s.1 []) (B.mv s.2 k).r < 0 then none else some ((toL (A.st.getD s.1 []) (B.mv s.2 k).r).toNat, (B.mv s.2 k).to.toNat)) := by
  have hk' : k < (B.st.getD s.2 []).length := hk
  rw [actP_ref hA hB, List.getElem?_map, List.getElem?_eq_getElem hk', show B.mv s.2 k = (B.st.getD s.2 [])[k] from by show (B.st.getD s.2 []).getD k default = _; rw [List.getD_eq_getElem?_getD, List.getElem?_eq_getElem hk']; rfl]
  rfl
theorem actP_len (hA : achk A = 0) (hB : achk B = 0) (s : Nat × Nat) : (actP dI A B s).length = B.len s.2 := by
  rw [actP_ref hA hB, List.length_map]; rfl
theorem drop_get {α : Type} {l : List α} {k : Nat} {x : α} (h : l[k]? = some x) : l.drop k = x :: l.drop (k + 1) ∧ l.take (k + 1) = l.take k ++ [x] := by
  have hk : k < l.length := by
    rcases Nat.lt_or_ge k l.length with hh | hh
    · exact hh
    · rw [List.getElem?_eq_none hh] at h; cases h
  rw [List.getElem?_eq_getElem hk] at h
  obtain rfl := Option.some.inj h
  exact ⟨List.drop_eq_getElem_cons hk, List.take_succ_eq_append_getElem hk⟩
theorem asc_all (hA : achk A = 0) (hB : achk B = 0) : ∀ s, Asc (actP dI A B s) := fun _ => actP_asc dI hA hB _
theorem BkS.mark (h : BkS A B l i k p) (hA : achk A = 0) (hB : achk B = 0) (hk : k < B.len p.1.2) (ht : toL (A.st.getD p.1.1 []) (B.mv p.1.2 k).r < 0) :
    markA (actP dI A B) (0, 0) (p.2 ++ [(B.mv p.1.2 k).r]) ∧ ∀ u, markA (actP dI A B) (0, 0) u → Wle (p.2 ++ [(B.mv p.1.2 k).r]) u := by
  have hg := actP_get hA hB p.1 hk
  rw [if_pos ht] at hg
  have hb := h.bfs
  rw [(drop_get hg).1] at hb
  exact hb.found (asc_all hA hB) h.at_
theorem BkS.skip (h : BkS A B l i k p) (hA : achk A = 0) (hB : achk B = 0) (hk : k < B.len p.1.2) (ht : ¬ toL (A.st.getD p.1.1 []) (B.mv p.1.2 k).r < 0) (hq : ∃ q ∈ l, q.1 = ((toL (A.st.getD p.1.1 []) (B.mv p.1.2 k).r).toNat, (B.mv p.1.2 k).to.toNat)) : BkS A B l i (k + 1) p := by
  have hg := actP_get hA hB p.1 hk
  rw [if_neg ht] at hg
  have hb := h.bfs
  rw [(drop_get hg).1] at hb
  refine ⟨h.at_, ?_, h.inb, h.len⟩
  rw [(drop_get hg).2]
  exact hb.skip hq
theorem BkS.add (h : BkS A B l i k p) (hA : achk A = 0) (hB : achk B = 0) (hk : k < B.len p.1.2) (ht : ¬ toL (A.st.getD p.1.1 []) (B.mv p.1.2 k).r < 0) (hto : (B.mv p.1.2 k).to.toNat < B.L) (hq : ¬ ∃ q ∈ l, q.1 = ((toL (A.st.getD p.1.1 []) (B.mv p.1.2 k).r).toNat, (B.mv p.1.2 k).to.toNat)) :
    BkS A B (l ++ [(((toL (A.st.getD p.1.1 []) (B.mv p.1.2 k).r).toNat, (B.mv p.1.2 k).to.toNat), p.2 ++ [(B.mv p.1.2 k).r])]) i (k + 1) p := by
  have hg := actP_get hA hB p.1 hk
  rw [if_neg ht] at hg
  have hb := h.bfs
  rw [(drop_get hg).1] at hb
  refine ⟨by rw [List.getElem?_append_left h.here]; exact h.at_, ?_, ?_, ?_⟩
  · rw [(drop_get hg).2]
    exact hb.add (asc_all hA hB) h.at_ (fun q hm he => hq ⟨q, hm, he⟩)
  · intro q hm
    rcases List.mem_append.1 hm with hm | hm
    · exact h.inb q hm
    · simp only [List.mem_singleton] at hm
      subst hm
      have := (toL_bd hA h.p_in.1 (B.mv p.1.2 k).r).2
      exact ⟨by show (toL _ _).toNat < _; omega, hto⟩
  · intro q hm
    rw [List.length_append, List.length_singleton]
    rcases List.mem_append.1 hm with hm | hm
    · have := h.len q hm; omega
    · simp only [List.mem_singleton] at hm
      subst hm
      have := h.len p h.mem
      show (p.2 ++ [_]).length ≤ _
      rw [List.length_append, List.length_singleton]
      omega
theorem BkS.done (h : BkS A B l i k p) (hA : achk A = 0) (hB : achk B = 0) (hk : k = B.len p.1.2) : Bfs (act := actP dI A B) (0, 0) l i (actP dI A B p.1) [] := by
  have hb := h.bfs
  rw [hk, ← actP_len hA hB p.1, List.take_length, List.drop_length] at hb
  exact hb
theorem BkS.next (h : BkS A B l i k p) (hA : achk A = 0) (hB : achk B = 0) (hk : k = B.len p.1.2) : (i + 1 < l.length → ∃ q, BkS A B l (i + 1) 0 q) ∧ (i + 1 = l.length → Full (act := actP dI A B) (0, 0) l) := by
  have hb := h.done hA hB hk
  refine ⟨fun hi => ?_, fun hi => hb.full hi⟩
  have hq : l[i + 1]? = some l[i + 1] := List.getElem?_eq_getElem hi
  exact ⟨l[i + 1], hq, by rw [List.take_zero, List.drop_zero]; exact hb.next hq, h.inb, h.len⟩
theorem BkS.few (h : BkS A B l i k p) (hA : achk A = 0) (hB : achk B = 0) : l.length ≤ 65536 := by
  have hd : (l.map (·.1)).Pairwise (· ≠ ·) := by
    rw [List.pairwise_map]
    exact h.bfs.diff
  have h3 := (achk_zero hB).2.2.2.1
  have h4 := (achk_zero hA).2.2.2.1
  have hp : ((l.map (·.1)).map fun p => p.1 * 256 + p.2).Pairwise (· ≠ ·) := by
    rw [List.pairwise_map]
    refine List.Pairwise.imp_of_mem (fun {p q} hp hq hne heq => hne ?_) hd
    obtain ⟨v, hv, rfl⟩ := List.mem_map.1 hp
    obtain ⟨u, hu, rfl⟩ := List.mem_map.1 hq
    have h1 := (h.inb v hv).2
    have h2 := (h.inb u hu).2
    exact Prod.ext (by omega) (by omega)
  have := few_nats 65536 _ hp fun x hx => by
    obtain ⟨p, hp, rfl⟩ := List.mem_map.1 hx
    obtain ⟨v, hv, rfl⟩ := List.mem_map.1 hp
    have h1 := (h.inb v hv).1
    have h2 := (h.inb v hv).2
    show v.1.1 * 256 + v.1.2 < _
    omega
  simpa using this
end
theorem NodeC.hasn {W : World} {base : Nat} {u : Value} {l : List ((Nat × Nat) × List Rd)} (h : NodeC W base u l) (hl : l.length ≤ 17592186044416) {mt tt : Int} (hmt : 0 ≤ mt) (htt : 0 ≤ tt) :
    Calls Try.prog 73 #[u, .agg #[.int .i64 mt, .int .i64 tt]] W fun e w' => e = .returned (.bool (decide (∃ q ∈ l, q.1 = (tt.toNat, mt.toNat)))) ∧ Ext W w' := by
  obtain ⟨ns, hr, hiff⟩ := h.row hl
  have he := hiff (tt.toNat, mt.toNat)
  dsimp only at he
  rw [Int.toNat_of_nonneg hmt, Int.toNat_of_nonneg htt] at he
  refine (rhasn_any ns mt tt u W hr).mono fun e w' h => ⟨?_, h.2⟩
  rw [h.1]
  congr 2
  exact decide_eq_decide.2 he
end Go.Proofs.Ytmkmgimmlohamaa
