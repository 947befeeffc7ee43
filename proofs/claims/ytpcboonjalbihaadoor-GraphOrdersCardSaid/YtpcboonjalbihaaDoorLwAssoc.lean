/-
  Three graphs in one argument, and the law's 'three'.
  Conditions: none.
-/
import Derived.Test.YtpcboonjalbihaaDoorAw03
import Derived.Test.YtpcboonjalbihaaDoorGMeasR
namespace Go.Proofs.YtpcboonjalbihaaDoor
open Go.RowKit
attribute [local go_sem] Oper.semAt_some

abbrev a3v (a b c : Gr) : Value := .agg #[.int .i64 a.n, .int .i64 a.h0, .int .i64 a.h1, .int .i64 a.h2, .int .i64 a.h3, .int .i64 a.h4, .int .i64 b.n, .int .i64 b.h0, .int .i64 b.h1, .int .i64 b.h2, .int .i64 b.h3, .int .i64 b.h4, .int .i64 c.n, .int .i64 c.h0, .int .i64 c.h1, .int .i64 c.h2, .int .i64 c.h3, .int .i64 c.h4]
abbrev a3obj (a b c : Gr) : Obj := .cells #[.int .i64 a.n, .int .i64 a.h0, .int .i64 a.h1, .int .i64 a.h2, .int .i64 a.h3, .int .i64 a.h4, .int .i64 b.n, .int .i64 b.h0, .int .i64 b.h1, .int .i64 b.h2, .int .i64 b.h3, .int .i64 b.h4, .int .i64 c.n, .int .i64 c.h0, .int .i64 c.h1, .int .i64 c.h2, .int .i64 c.h3, .int .i64 c.h4] 43
def A3Box (W : World) (p : Nat) (a b c : Gr) : Prop := W.heap[p]? = some (a3obj a b c)
theorem A3Box.alloc {W : World} {p : Nat} {a b c : Gr} (h : A3Box W p a b c) (o : Obj) : A3Box (W.alloc o) p a b c := (Below.heap_alloc _ _ _ (lt_of_heap h)).trans h
theorem A3Box.ext {W V : World} {p : Nat} {a b c : Gr} (h : A3Box W p a b c) (hE : Ext W V) : A3Box V p a b c := (hE.b.block _ (lt_of_heap h)).trans h
theorem A3Box.new (w : World) (a b c : Gr) : A3Box (w.alloc (a3obj a b c)) w.heap.size a b c := heap_alloc_new w _
theorem A3Box.cells {W : World} {p : Nat} {a b c : Gr} (h : A3Box W p a b c) :
    (W.cell? ⟨p, 0, none⟩ = some (.int .i64 a.n) ∧ W.cell? ⟨p, 1, none⟩ = some (.int .i64 a.h0) ∧ W.cell? ⟨p, 2, none⟩ = some (.int .i64 a.h1) ∧ W.cell? ⟨p, 3, none⟩ = some (.int .i64 a.h2) ∧ W.cell? ⟨p, 4, none⟩ = some (.int .i64 a.h3) ∧ W.cell? ⟨p, 5, none⟩ = some (.int .i64 a.h4)) ∧
    (W.cell? ⟨p, 6, none⟩ = some (.int .i64 b.n) ∧ W.cell? ⟨p, 7, none⟩ = some (.int .i64 b.h0) ∧ W.cell? ⟨p, 8, none⟩ = some (.int .i64 b.h1) ∧ W.cell? ⟨p, 9, none⟩ = some (.int .i64 b.h2) ∧ W.cell? ⟨p, 10, none⟩ = some (.int .i64 b.h3) ∧ W.cell? ⟨p, 11, none⟩ = some (.int .i64 b.h4)) ∧
    (W.cell? ⟨p, 12, none⟩ = some (.int .i64 c.n) ∧ W.cell? ⟨p, 13, none⟩ = some (.int .i64 c.h0) ∧ W.cell? ⟨p, 14, none⟩ = some (.int .i64 c.h1) ∧ W.cell? ⟨p, 15, none⟩ = some (.int .i64 c.h2) ∧ W.cell? ⟨p, 16, none⟩ = some (.int .i64 c.h3) ∧ W.cell? ⟨p, 17, none⟩ = some (.int .i64 c.h4)) ∧ p < W.heap.size := by
  have hh : W.heap[p]? = some (a3obj a b c) := h
  refine ⟨⟨?_, ?_, ?_, ?_, ?_, ?_⟩, ⟨?_, ?_, ?_, ?_, ?_, ?_⟩, ⟨?_, ?_, ?_, ?_, ?_, ?_⟩, lt_of_heap hh⟩ <;> (rw [cell_of_row _ _ _ _ _ _ hh]; rfl)

set_option maxHeartbeats 1000000 in
theorem three_any (a b c : Gr) (w : World) : Calls Tryd.prog 24 #[a3v a b c] w fun e w' => e = .returned (.bool (decide (bothS a b = 0 ∧ bothS b c = 0))) ∧ Ext w w' := by
  have H1 := hide (fun W => rgboth_any a b W)
  have H2 := hide (fun W => rgboth_any b c W)
  generalize bothS a b = r1 at H1 ⊢
  generalize bothS b c = r2 at H2 ⊢
  go_enter Tryd.func24, Tryd.ntmps24
  go_wp2_with fail
  have HB := hide (A3Box.new w a b c)
  have HE : Hid (Ext w (w.alloc (a3obj a b c))) := hide ((Ext.refl w).alloc _)
  generalize w.alloc (a3obj a b c) = W at HB HE ⊢
  obtain ⟨⟨c0, c1, c2, c3, c4, c5⟩, ⟨d0, d1, d2, d3, d4, d5⟩, -, z0⟩ := HB.out.cells
  go_wp2_with fail
  clear c0 c1 c2 c3 c4 c5 d0 d1 d2 d3 d4 d5 z0
  refine (H1.out _).mono ?_
  rintro e w2 ⟨rfl, hE⟩
  have HE := hide (HE.out.trans hE)
  have HB := hide (HB.out.ext hE)
  clear hE
  by_cases h1 : r1 = 0
  · subst h1
    obtain ⟨-, ⟨d0, d1, d2, d3, d4, d5⟩, ⟨c0, c1, c2, c3, c4, c5⟩, z0⟩ := HB.out.cells
    go_wp2_with fail
    clear c0 c1 c2 c3 c4 c5 d0 d1 d2 d3 d4 d5 z0
    refine (H2.out _).mono ?_
    rintro e w3 ⟨rfl, hE⟩
    have HE := hide (HE.out.trans hE)
    clear hE
    go_wp2_with fail
    go_ret
    exact ⟨by simp; rfl, HE.out⟩
  · have hd : (r1 == 0) = false := by simp [h1]
    have h1 := hide h1
    go_wp2_with fail
    go_ret
    exact ⟨by simp [h1.out], HE.out⟩

theorem A3Box.gstore_other {V : World} {p b' : Nat} {a b c : Gr} (h : A3Box V p a b c) (hne : p ≠ b') (r : Gr) : A3Box (gstore V b' r) p a b c := by
  show (gstore V b' r).heap[p]? = _
  rw [Below.heap_setCell _ _ _ _ hne, Below.heap_setCell _ _ _ _ hne, Below.heap_setCell _ _ _ _ hne, Below.heap_setCell _ _ _ _ hne, Below.heap_setCell _ _ _ _ hne, Below.heap_setCell _ _ _ _ hne]
  exact h
theorem chk_of_wf {g : Gr} {n : Nat} (h : Wf g n) : gchk g = 0 := by
  have := h.n1; have := h.n5; have := h.n_eq
  refine gchk_ok (by omega) fun p _ => ?_
  unfold gchkAt
  rw [h.row p, h.n_eq, has_nat, show (n : Int).toNat = n from rfl]
  rcases Nat.lt_or_ge p n with h1 | h1
  · have h2 := h.lt p h1
    rw [if_neg (by omega), if_neg, if_pos (h.own p h1)]
    rw [show ((2 : Int) ^ n) = ((2 ^ n : Nat) : Int) by simp]
    generalize 2 ^ n = m at h2 ⊢
    omega
  · rw [if_pos (by omega), h.out p h1]; rfl
theorem both_of_wf {a b : Gr} {n : Nat} (ha : Wf a n) (hb : Wf b n) : bothS a b = 0 := bothS_0 (chk_of_wf ha) (chk_of_wf hb) (ha.n_eq.trans hb.n_eq.symm)
theorem compS_wf {a b : Gr} {n : Nat} (ha : Wf a n) (hb : Wf b n) : composeS a b = (compG a b, 0) := by unfold composeS; rw [both_of_wf ha hb]; rfl
theorem uniS_wf {a b : Gr} {n : Nat} (ha : Wf a n) (hb : Wf b n) : unionS a b = (uniG a b, 0) := by unfold unionS; rw [both_of_wf ha hb]; rfl
theorem silS_wf {a : Gr} {n : Nat} (ha : Wf a n) : silentS a.n = (silG n, 0) := by
  have := ha.n1; have := ha.n5
  unfold silentS sizedE; rw [ha.toNat, ha.n_eq, if_neg (by omega)]; rfl
theorem comp_uni {a b c : Gr} {n : Nat} (ha : Wf a n) (hb : Wf b n) (hc : Wf c n) : compG a (uniG b c) = uniG (compG a b) (compG a c) := by
  have hu := uni_wf hb hc
  refine wf_ext (comp_wf ha hu) (uni_wf (comp_wf ha hb) (comp_wf ha hc)) fun p q hp _ => ?_
  rw [uni_bit (comp_wf ha hb) hp, Bool.eq_iff_iff, comp_bit ha hu hp, Bool.or_eq_true, comp_bit ha hb hp, comp_bit ha hc hp]
  simp only [uni_bit hb hp, Bool.or_eq_true]
  constructor
  · rintro ⟨m, h1 | h1, h2⟩
    · exact .inl ⟨m, h1, h2⟩
    · exact .inr ⟨m, h1, h2⟩
  · rintro (⟨m, h1, h2⟩ | ⟨m, h1, h2⟩)
    · exact ⟨m, .inl h1, h2⟩
    · exact ⟨m, .inr h1, h2⟩
theorem uni_comp {a b c : Gr} {n : Nat} (ha : Wf a n) (hb : Wf b n) (hc : Wf c n) : compG (uniG b c) a = uniG (compG b a) (compG c a) := by
  have hu := uni_wf hb hc
  refine wf_ext (comp_wf hu ha) (uni_wf (comp_wf hb ha) (comp_wf hc ha)) fun p q hp _ => ?_
  rw [uni_bit (comp_wf hb ha) hp, Bool.eq_iff_iff, comp_bit hu ha hp, Bool.or_eq_true, comp_bit hb ha hp, comp_bit hc ha hp]
  constructor
  · rintro ⟨m, h1, h2⟩
    rw [uni_bit hb (ha.bit_lt h1).1, Bool.or_eq_true] at h2
    exact h2.elim (fun h => .inl ⟨m, h1, h⟩) fun h => .inr ⟨m, h1, h⟩
  · rintro (⟨m, h1, h2⟩ | ⟨m, h1, h2⟩)
    · exact ⟨m, h1, by rw [uni_bit hb (ha.bit_lt h1).1, h2]; rfl⟩
    · exact ⟨m, h1, by rw [uni_bit hb (ha.bit_lt h1).1, h2, Bool.or_true]⟩
theorem comp_sil {a : Gr} {n : Nat} (ha : Wf a n) : compG a (silG n) = a := by
  have hs := sil_wf ha.n1 ha.n5
  refine wf_ext (comp_wf ha hs) ha fun p q hp _ => ?_
  rw [Bool.eq_iff_iff, comp_bit ha hs hp]
  simp only [sil_bit ha.n5 hp, decide_eq_true_eq]
  exact ⟨fun ⟨_, h1, h2⟩ => h1 ▸ h2, fun h => ⟨p, rfl, h⟩⟩
theorem sil_comp {a : Gr} {n : Nat} (ha : Wf a n) : compG (silG n) a = a := by
  have hs := sil_wf ha.n1 ha.n5
  refine wf_ext (comp_wf hs ha) ha fun p q hp _ => ?_
  rw [Bool.eq_iff_iff, comp_bit hs ha hp]
  constructor
  · rintro ⟨m, h1, h2⟩
    rw [sil_bit ha.n5 (ha.bit_lt h1).1, decide_eq_true_eq] at h2
    exact h2 ▸ h1
  · exact fun h => ⟨q, h, by rw [sil_bit ha.n5 (ha.bit_lt h).1]; simp⟩
/-- What the products and unions of the law are. -/
structure AssocOk (a b c ab L bc u x ac z ba ca s : Gr) : Prop where
  e1 : composeS a b = (ab, 0)
  e2 : composeS ab c = (L, 0)
  e3 : composeS b c = (bc, 0)
  e4 : composeS a bc = (L, 0)
  e5 : unionS b c = (u, 0)
  e6 : composeS a u = (x, 0)
  e7 : composeS a c = (ac, 0)
  e8 : unionS ab ac = (x, 0)
  e9 : composeS u a = (z, 0)
  e10 : composeS b a = (ba, 0)
  e11 : composeS c a = (ca, 0)
  e12 : unionS ba ca = (z, 0)
  e13 : silentS a.n = (s, 0)
  e14 : composeS a s = (a, 0)
  e15 : composeS s a = (a, 0)
theorem assoc_ok {a b c : Gr} (h1 : bothS a b = 0) (h2 : bothS b c = 0) : ∃ ab L bc u x ac z ba ca s, AssocOk a b c ab L bc u x ac z ba ca s := by
  obtain ⟨n, ha, hb⟩ := bothS_ok h1
  obtain ⟨m, hb', hc⟩ := bothS_ok h2
  obtain rfl : m = n := hb'.toNat.symm.trans hb.toNat
  have hs := sil_wf ha.n1 ha.n5
  have hab := comp_wf ha hb
  have hbc := comp_wf hb hc
  have hu := uni_wf hb hc
  exact ⟨_, _, _, _, _, _, _, _, _, _, compS_wf ha hb, compS_wf hab hc, compS_wf hb hc, (compS_wf ha hbc).trans (by rw [comp_assoc ha hb hc]), uniS_wf hb hc, compS_wf ha hu, compS_wf ha hc,
    (uniS_wf hab (comp_wf ha hc)).trans (by rw [comp_uni ha hb hc]), compS_wf hu ha, compS_wf hb ha, compS_wf hc ha, (uniS_wf (comp_wf hb ha) (comp_wf hc ha)).trans (by rw [uni_comp ha hb hc]), silS_wf ha,
    (compS_wf ha hs).trans (by rw [comp_sil ha]), (compS_wf hs ha).trans (by rw [sil_comp ha])⟩
abbrev CmpOK (w : World) (a b r : Gr) : Prop := ∀ W, Ext w W → Calls Tryd.prog 17 #[a.v, b.v] W (RetG (r, 0) W)
abbrev UniOK (a b r : Gr) : Prop := ∀ W, Calls Tryd.prog 21 #[a.v, b.v] W (RetG (r, 0) W)
abbrev SilOK (n : Int) (r : Gr) : Prop := ∀ W, Calls Tryd.prog 25 #[.int .i64 n] W (RetG (r, 0) W)
theorem cmp_ok {w : World} (hT : Tz w) {a b r : Gr} (h : composeS a b = (r, 0)) : CmpOK w a b r := fun W hE => h ▸ compose_any a b W (hT.ext hE)
theorem uni_ok {a b r : Gr} (h : unionS a b = (r, 0)) : UniOK a b r := fun W => h ▸ union_any a b W
theorem sil_ok {n : Int} {r : Gr} (h : silentS n = (r, 0)) : SilOK n r := fun W => h ▸ silent_any n W
end Go.Proofs.YtpcboonjalbihaaDoor
