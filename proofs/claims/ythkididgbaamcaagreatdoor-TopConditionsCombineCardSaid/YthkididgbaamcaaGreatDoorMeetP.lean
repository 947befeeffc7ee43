/-
  The program's layer 14 (relate): combined, Meet, Join.
  Conditions: both tasks have all inputs, and no vectors of their own for no faulty processes.
-/
import Derived.Test.YthkididgbaamcaaGreatDoorMeetM
import Derived.Test.YthkididgbaamcaaGreatDoorMeetS
import Derived.Test.YthkididgbaamcaaGreatDoorIndep
import Derived.Shelf.SlSortCmp.WholeK
namespace Go.Proofs.YthkididgbaamcaaGreatDoor
open Go.RowKit
attribute [local go_sem] Oper.semAt_some

/-- Cases in a slice of one's own. -/
def CsOwn (w : World) (base : Nat) (r : Value) (cs : List Cs) : Prop := ∃ vs, Own tenc 3 w base 60 r vs ∧ vs.length = cs.length ∧ ∀ (i : Nat) t c, vs[i]? = some t → cs[i]? = some c → CaseAt w t c
theorem CsOwn.nil (w : World) (base : Nat) : CsOwn w base (.slice none 0 0) [] := ⟨[], Own.nil _ _ _ (fun _ => rfl), rfl, fun i t c h => by simp at h⟩
theorem CsOwn.ext {w W : World} {base : Nat} {r : Value} {cs : List Cs} (h : CsOwn w base r cs) (hE : Ext w W) : CsOwn W base r cs := by
  obtain ⟨vs, h1, h2, h3⟩ := h
  exact ⟨vs, h1.ext hE, h2, fun i t c ht hc => (h3 i t c ht hc).ext hE⟩
theorem CsOwn.mono {w : World} {base base' : Nat} {r : Value} {cs : List Cs} (h : CsOwn w base r cs) (hb : base' ≤ base) : CsOwn w base' r cs := by
  obtain ⟨vs, h1, h2⟩ := h
  exact ⟨vs, h1.mono hb, h2⟩
theorem CsOwn.sl {w : World} {base : Nat} {r : Value} {cs : List Cs} (h : CsOwn w base r cs) : ∃ q c, r = .slice q cs.length c := by
  obtain ⟨vs, h1, h2, -⟩ := h
  rw [← h2]; exact h1.sl
theorem PlainTk.len_ {N Mi Mo : Nat} {f : List Int → List (List Int)} (_h : PlainTk N Mi Mo f) : (tkOf N Mi Mo f).cs.length = (vecs Mi N).length := List.length_map _
theorem tkOf_at {N Mi Mo : Nat} {f : List Int → List (List Int)} {i : Nat} (hi : i < (vecs Mi N).length) : (tkOf N Mi Mo f).cs.getD i default = ⟨(vecs Mi N).getD i [], f ((vecs Mi N).getD i []), []⟩ := by
  show ((vecs Mi N).map _).getD i default = _
  rw [List.getD_eq_getElem?_getD, List.getD_eq_getElem?_getD, List.getElem?_map, List.getElem?_eq_getElem hi]; rfl
theorem PlainTk.fnd_ {N Mi Mo : Nat} {f : List Int → List (List Int)} (h : PlainTk N Mi Mo f) {i : Nat} (hi : i < (vecs Mi N).length) : fnd (tkOf N Mi Mo f) ((vecs Mi N).getD i []) = i :=
  fnd_at (tk_ok h.ok) (by rw [h.len_]; exact hi) (by rw [tkOf_at hi])
theorem PlainTk.lens {N Mi Mo : Nat} {f : List Int → List (List Int)} (h : PlainTk N Mi Mo f) : ∀ c ∈ (tkOf N Mi Mo f).cs, c.out.length ≤ 17592186044416 ∧ c.calm.length ≤ 17592186044416 := by
  intro c hc
  obtain ⟨x, _, rfl⟩ := List.mem_map.1 (show c ∈ (vecs Mi N).map _ from hc)
  have := h.len x
  exact ⟨by show (f x).length ≤ _; omega, Nat.zero_le _⟩
def takeK (X : List (List Int)) (K : List Int → Cs) (i : Nat) : List Cs := (X.take i).map K
def fullK (X : List (List Int)) (E : List Int → Bool) (i : Nat) : Bool := !(X.take i).any E
theorem takeK_succ {X : List (List Int)} (K : List Int → Cs) {i : Nat} (hi : i < X.length) : takeK X K (i + 1) = takeK X K i ++ [K (X.getD i [])] := by
  unfold takeK
  rw [List.take_succ_eq_append_getElem hi, List.map_append, List.getD_eq_getElem?_getD, List.getElem?_eq_getElem hi]; rfl
theorem fullK_succ {X : List (List Int)} (E : List Int → Bool) {i : Nat} (hi : i < X.length) : fullK X E (i + 1) = (fullK X E i && !E (X.getD i [])) := by
  unfold fullK
  rw [List.take_succ_eq_append_getElem hi, List.any_append, List.getD_eq_getElem?_getD, List.getElem?_eq_getElem hi]
  show (!(_ || (E X[i] || false))) = _
  rw [Bool.or_false, Bool.not_or]; rfl
theorem CsOwn.push {W W' : World} {base : Nat} {u v' : Value} {vs : List (Value × Value × Value)} {cs : List Cs} {y : Value × Value × Value} {c : Cs} (ho : Own tenc 3 W base 60 u vs) (hl : vs.length = cs.length)
    (hc : ∀ (i : Nat) t c, vs[i]? = some t → cs[i]? = some c → CaseAt W t c) (hy : CaseAt W y c) (hg : W.grownBy W' u.ownBlock) (ho' : Own tenc 3 W' base 60 v' (vs ++ [y])) : CsOwn W' base v' (cs ++ [c]) := by
  have hst : Stay W W' := Stay.grown hg ho.typed (by decide) (by decide)
  refine ⟨vs ++ [y], ho', by simp [hl], fun i t d ht hd => ?_⟩
  by_cases hi : i < vs.length
  · rw [List.getElem?_append_left hi] at ht
    rw [List.getElem?_append_left (by omega)] at hd
    exact (hc i t d ht hd).stay hst
  · rw [List.getElem?_append_right (by omega)] at ht
    rw [List.getElem?_append_right (by omega)] at hd
    rcases Nat.eq_zero_or_pos (i - vs.length) with h0 | h0
    · rw [h0] at ht
      rw [show i - cs.length = 0 by omega] at hd
      simp only [List.getElem?_cons_zero, Option.some.injEq] at ht hd
      subst ht hd
      exact hy.stay hst
    · rw [List.getElem?_eq_none (by simp; omega)] at ht; cases ht
theorem putAll14 (d0 d1 d2 d3 d4 d5 d6 d7 d8 d9 d10 d11 d12 d13 : Nat) (v : Nat → Value) (t : Array Value) : putAll (fun i => [d0, d1, d2, d3, d4, d5, d6, d7, d8, d9, d10, d11, d12, d13].getD i 0) v 14 t = ((((((((((((((t.setIfInBounds d0 (v 0)).setIfInBounds d1 (v 1)).setIfInBounds d2 (v 2)).setIfInBounds d3 (v 3)).setIfInBounds d4 (v 4)).setIfInBounds d5 (v 5)).setIfInBounds d6 (v 6)).setIfInBounds d7 (v 7)).setIfInBounds d8 (v 8)).setIfInBounds d9 (v 9)).setIfInBounds d10 (v 10)).setIfInBounds d11 (v 11)).setIfInBounds d12 (v 12)).setIfInBounds d13 (v 13)) := rfl
/-- What the operations of combined's region yield. -/
def RcR (fv s1 s2 g1 g2 p1 p2 : Value) (H : List (List Int)) : Nat → Value → World → Prop
  | 0, v, _ => v = fv
  | 1, v, _ => v = p1
  | 2, v, _ => v = s1
  | 3, v, _ => v = p2
  | 4, v, _ => v = s2
  | 6, v, _ => v = fv
  | 7, v, _ => v = g1
  | 8, v, _ => v = s1
  | 9, v, _ => v = g2
  | 10, v, _ => v = s2
  | _, v, W => Rows2 icells 1 W v H
theorem RcR.ext {fv s1 s2 g1 g2 p1 p2 : Value} {H : List (List Int)} (i : Nat) (v : Value) (w W : World) (h : RcR fv s1 s2 g1 g2 p1 p2 H i v w) (hE : Ext w W) : RcR fv s1 s2 g1 g2 p1 p2 H i v W := by
  unfold RcR at *
  split at h <;> first | exact h | exact Rows2.ext h hE
set_option maxRecDepth 16000 in
set_option maxHeartbeats 4000000 in
theorem pcomb_any {N Mi Mo : Nat} {f g : List Int → List (List Int)} (hf : PlainTk N Mi Mo f) (hg : PlainTk N Mi Mo g) (h : List (List Int) → List (List Int) → List (List Int)) (fid : Nat)
    (ef : ∀ args w, (callFunc fid args).run Tryz.prog w = .ok (.enter fid args) w)
    (hF : ∀ x ∈ vecs Mi N, ∀ u t W, Coll 45 3 icells 1 W 0 u (f x) → Coll 45 3 icells 1 W 0 t (g x) → Calls Tryz.prog fid #[u, t] W (RetV (fun u' w' => Rows2 icells 1 w' u' (h (f x) (g x))) W))
    (hh : ∀ x ∈ vecs Mi N, (h (f x) (g x)).length ≤ 100 ∧ ∀ y ∈ h (f x) (g x), y.length = N) (v u : Value) (w : World) (hv : TkAt w v (tkOf N Mi Mo f)) (hu : TkAt w u (tkOf N Mi Mo g)) :
    Calls Tryz.prog 35 #[v, u, .func (.func fid) #[] #[]] w fun e w' => ∃ r, e = .returned (.tuple #[r, .bool (!emptyB N Mi fun x => h (f x) (g x)), .bool false]) ∧
      CsOwn w' w.heap.size r ((vecs Mi N).map fun x => ⟨x, h (f x) (g x), []⟩) ∧ Ext w w' := by
  have hN1 := hf.sm.n1
  have hN2 := hf.sm.n2
  have hXL : (vecs Mi N).length ≤ 4 := by rw [vecs_len]; exact hf.sm.fewI
  have HFD : Hid (∀ i, i < (vecs Mi N).length → ∀ U W, Ext w W → Row icells 1 W U ((vecs Mi N).getD i []) → Calls Tryz.prog 44 #[u, U] W fun e w' => ∃ q0 k0 q1 k1 q2 k2,
      e = .returned (.tuple #[.agg #[.slice q0 ((vecs Mi N).getD i []).length k0, .slice q1 (g ((vecs Mi N).getD i [])).length k1, .slice q2 0 k2], .bool true]) ∧
      Coll 45 3 icells 1 W 0 (.slice q1 (g ((vecs Mi N).getD i [])).length k1) (g ((vecs Mi N).getD i [])) ∧ Ext W w') := fun i hi U W hW hU => by
    refine (pfindT_any (tkOf N Mi Mo g) ((vecs Mi N).getD i []) i (by rw [hg.len_]; exact hi) (hg.fnd_ hi) u U W (hu.ext hW) hg.lens hU).mono ?_
    rintro e w' ⟨q0, k0, q1, k1, q2, k2, he, hc, hE⟩
    rw [tkOf_at hi] at he hc
    exact ⟨q0, k0, q1, k1, q2, k2, he, hc.out, hE⟩
  obtain ⟨p, c, hve, hcl, hl, hat⟩ := hv.all_ hf.lens
  obtain ⟨p', c', hue, -⟩ := hu.all_ hg.lens
  rw [hf.len_] at hve hcl hl hat
  have HAT : Hid (0 < (vecs Mi N).length → ∃ b o, p = some ⟨b, o, none⟩ ∧ b < w.heap.size ∧ ∀ i, i < (vecs Mi N).length → ∃ q0 k0 q1 k1 q2 k2,
      (∀ W, Ext w W → W.cell? ⟨b, o + i * 3, none⟩ = some (.slice q0 ((vecs Mi N).getD i []).length k0) ∧ W.cell? ⟨b, o + i * 3 + 1, none⟩ = some (.slice q1 (f ((vecs Mi N).getD i [])).length k1) ∧ W.cell? ⟨b, o + i * 3 + 2, none⟩ = some (.slice q2 0 k2)) ∧
      Row icells 1 w (.slice q0 ((vecs Mi N).getD i []).length k0) ((vecs Mi N).getD i []) ∧ Coll 45 3 icells 1 w 0 (.slice q1 (f ((vecs Mi N).getD i [])).length k1) (f ((vecs Mi N).getD i []))) := fun h0 => by
    obtain ⟨b, o, e, hb, hx⟩ := hat h0
    refine ⟨b, o, e, hb, fun i hi => ?_⟩
    obtain ⟨q0, k0, q1, k1, q2, k2, h1, h2⟩ := hx i hi
    rw [tkOf_at hi] at h1 h2
    exact ⟨q0, k0, q1, k1, q2, k2, fun W hW => ⟨h1.c0 W hW, h1.c1 W hW, h1.c2 W hW⟩, h2.inp.1, h2.out⟩
  have HFF : Hid (∀ i, i < (vecs Mi N).length → ∀ u t W, Coll 45 3 icells 1 W 0 u (f ((vecs Mi N).getD i [])) → Coll 45 3 icells 1 W 0 t (g ((vecs Mi N).getD i [])) → Calls Tryz.prog fid #[u, t] W (RetV (fun u' w' => Rows2 icells 1 w' u' (h (f ((vecs Mi N).getD i [])) (g ((vecs Mi N).getD i [])))) W)) :=
    fun i hi => hF _ (getD_mem_l hi)
  have HHL : Hid (∀ i, i < (vecs Mi N).length → (h (f ((vecs Mi N).getD i [])) (g ((vecs Mi N).getD i []))).length ≤ 100 ∧ ∀ j, j < (h (f ((vecs Mi N).getD i [])) (g ((vecs Mi N).getD i []))).length → ((h (f ((vecs Mi N).getD i [])) (g ((vecs Mi N).getD i []))).getD j []).length = N) :=
    fun i hi => ⟨(hh _ (getD_mem_l hi)).1, fun j hj => (hh _ (getD_mem_l hi)).2 _ (getD_mem_l hj)⟩
  have HXN : Hid (∀ i, i < (vecs Mi N).length → ((vecs Mi N).getD i []).length = N) := fun i hi => vecs_all_len (getD_mem_l hi)
  have HK0 : Hid (takeK (vecs Mi N) (fun x => ⟨x, h (f x) (g x), []⟩) 0 = []) := rfl
  have HKS : Hid (∀ i, i < (vecs Mi N).length → takeK (vecs Mi N) (fun x => ⟨x, h (f x) (g x), []⟩) (i + 1) = takeK (vecs Mi N) (fun x => ⟨x, h (f x) (g x), []⟩) i ++ [⟨(vecs Mi N).getD i [], h (f ((vecs Mi N).getD i [])) (g ((vecs Mi N).getD i [])), []⟩]) := fun i hi => takeK_succ _ hi
  have HKN : Hid (takeK (vecs Mi N) (fun x => ⟨x, h (f x) (g x), []⟩) (vecs Mi N).length = (vecs Mi N).map fun x => ⟨x, h (f x) (g x), []⟩) := by show _ = _; unfold takeK; rw [List.take_length]
  have HKL : Hid (∀ i, (takeK (vecs Mi N) (fun x => ⟨x, h (f x) (g x), []⟩) i).length ≤ i) := fun i => by unfold takeK; rw [List.length_map, List.length_take]; omega
  have HL0 : Hid (fullK (vecs Mi N) (fun x => (h (f x) (g x)).isEmpty) 0 = true) := rfl
  have HLS : Hid (∀ i, i < (vecs Mi N).length → fullK (vecs Mi N) (fun x => (h (f x) (g x)).isEmpty) (i + 1) = (fullK (vecs Mi N) (fun x => (h (f x) (g x)).isEmpty) i && !(h (f ((vecs Mi N).getD i [])) (g ((vecs Mi N).getD i []))).isEmpty)) := fun i hi => fullK_succ _ hi
  have HLN : Hid (fullK (vecs Mi N) (fun x => (h (f x) (g x)).isEmpty) (vecs Mi N).length = !emptyB N Mi fun x => h (f x) (g x)) := by show _ = _; unfold fullK emptyB; rw [List.take_length]
  generalize (!emptyB N Mi fun x => h (f x) (g x)) = resF at HLN ⊢
  generalize ((vecs Mi N).map fun x => (⟨x, h (f x) (g x), []⟩ : Cs)) = resK at HKN ⊢
  generalize takeK (vecs Mi N) (fun x => (⟨x, h (f x) (g x), []⟩ : Cs)) = ks at HK0 HKS HKN HKL
  generalize fullK (vecs Mi N) (fun x => (h (f x) (g x)).isEmpty) = fs at HL0 HLS HLN
  clear hat hv hu hF hh hl hcl
  generalize hX : (vecs Mi N).getD = X at *
  clear hX
  generalize hn : (vecs Mi N).length = n at *
  clear hn
  generalize htn : (tkOf N Mi Mo g).cs.length = nt at hue
  clear htn
  subst hve hue
  obtain ⟨w2, hw2⟩ : ∃ w2, (w.alloc (.cells #[.int .i64 (tkOf N Mi Mo f).n, .int .i64 (tkOf N Mi Mo f).ins, .int .i64 (tkOf N Mi Mo f).outs, .slice p n c] 33)).alloc (.cells #[.int .i64 (tkOf N Mi Mo g).n, .int .i64 (tkOf N Mi Mo g).ins, .int .i64 (tkOf N Mi Mo g).outs, .slice p' nt c'] 33) = w2 := ⟨_, rfl⟩
  have HE : Hid (Ext w w2) := by show Ext _ _; rw [← hw2]; exact ((Ext.refl w).alloc _).alloc _
  have HT : Hid (TBox w2 w.heap.size (.int .i64 (tkOf N Mi Mo f).n) (.int .i64 (tkOf N Mi Mo f).ins) (.int .i64 (tkOf N Mi Mo f).outs) (.slice p n c)) := by
    show _ = _
    rw [← hw2, Below.heap_alloc _ _ _ (by simp)]
    exact heap_alloc_new w _
  have HU : Hid (TBox w2 (w.heap.size + 1) (.int .i64 (tkOf N Mi Mo g).n) (.int .i64 (tkOf N Mi Mo g).ins) (.int .i64 (tkOf N Mi Mo g).outs) (.slice p' nt c')) := by
    show _ = _
    rw [← hw2]
    have := heap_alloc_new (w.alloc (.cells #[.int .i64 (tkOf N Mi Mo f).n, .int .i64 (tkOf N Mi Mo f).ins, .int .i64 (tkOf N Mi Mo f).outs, .slice p n c] 33)) (.cells #[.int .i64 (tkOf N Mi Mo g).n, .int .i64 (tkOf N Mi Mo g).ins, .int .i64 (tkOf N Mi Mo g).outs, .slice p' nt c'] 33)
    rwa [World.size_alloc] at this
  have HW2 := hide hw2
  clear hw2
  generalize (tkOf N Mi Mo f).n = a1 at *
  generalize (tkOf N Mi Mo f).ins = a2 at *
  generalize (tkOf N Mi Mo f).outs = a3 at *
  generalize (tkOf N Mi Mo g).n = b1 at *
  generalize (tkOf N Mi Mo g).ins = b2 at *
  generalize (tkOf N Mi Mo g).outs = b3 at *
  obtain ⟨t0, t1, t2, t3⟩ := HT.out.cells
  have z0 := lt_of_heap HT.out
  go_enter Tryz.func35, Tryz.ntmps35
  go_wp2_with fail
  rw [HW2.out]
  go_wp2_with fail
  clear t0 t1 t2 t3 z0
  go_loopw [21, 9, 10, 11] (fun x y f10 f11 wr => ∃ i : Nat, i ≤ n ∧ x = .int .i64 i ∧ f10 = .bool (fs i) ∧ f11 = .bool false ∧ Hid (CsOwn wr w2.heap.size y (ks i)) ∧ Hid (Ext w2 wr)) (fun x _ _ _ _ => n - (intOf x).toNat)
  case atStart => exact ⟨0, by omega, rfl, by rw [HL0.out], rfl, by rw [HK0.out]; exact CsOwn.nil _ _, Ext.refl _⟩
  case round =>
    obtain ⟨i, hi, rfl, rfl, rfl, HO, HE2⟩ := hrel
    obtain ⟨qy, ky, hye⟩ := HO.out.sl
    subst hye
    by_cases hlt : i < n
    · obtain ⟨b, o, rfl, hb, hat⟩ := HAT.out (by omega)
      obtain ⟨q0, k0, q1, k1, q2, k2, hc, hrow, hcol⟩ := hat i hlt
      obtain ⟨x0, x1, x2⟩ := hc wr (HE.out.trans HE2.out)
      have hbz := Nat.lt_of_lt_of_le hb (HE.out.trans HE2.out).size
      have HROW := hide hrow
      have HCOL := hide hcol
      have HFI := hide (HFD.out i hlt (.slice q0 (X i []).length k0))
      clear hat hc hrow hcol
      obtain ⟨t0, t1, t2, t3⟩ := (HU.out.ext HE2.out).cells
      have z1 := lt_of_heap (HU.out.ext HE2.out)
      go_wp2_with fail
      obtain ⟨W1, hW1⟩ : ∃ W1, wr.alloc (.cells #[.slice q0 (X i []).length k0, .slice q1 (f (X i [])).length k1, .slice q2 0 k2] 60) = W1 := ⟨_, rfl⟩
      have HE1 : Hid (Ext wr W1) := by show Ext _ _; rw [← hW1]; exact (Ext.refl _).alloc _
      have HB1 : Hid (CBox W1 wr.heap.size (.slice q0 (X i []).length k0) (.slice q1 (f (X i [])).length k1) (.slice q2 0 k2)) := by show _ = _; rw [← hW1]; exact heap_alloc_new wr _
      rw [hW1]
      clear hW1
      refine (HFI.out W1 ((HE.out.trans HE2.out).trans HE1.out) (HROW.out.ext ((HE.out.trans HE2.out).trans HE1.out))).mono ?_
      rintro e W3 ⟨r0, l0, r1, l1, r2, l2, rfl, hcol2, hE3⟩
      have HB3 := hide (HB1.out.ext hE3)
      have HE3 := hide (((HE.out.trans HE2.out).trans HE1.out).trans hE3)
      have HE23 := hide ((HE2.out.trans HE1.out).trans hE3)
      have HO3 := hide ((HO.out.ext HE1.out).ext hE3)
      have HCL1 := hide (HCOL.out.ext HE3.out)
      have HCL2 := hide (hcol2.ext hE3)
      clear hcol2 hE3 HFI HB1 HE1 HO t0 t1 t2 t3 z1 x0 x1 x2 hbz
      go_wp2_with fail
      obtain ⟨W5, hW5⟩ : ∃ W5, W3.alloc (.cells #[.slice r0 (X i []).length l0, .slice r1 (g (X i [])).length l1, .slice r2 0 l2] 60) = W5 := ⟨_, rfl⟩
      have HE35 : Hid (Ext W3 W5) := by show Ext _ _; rw [← hW5]; exact (Ext.refl _).alloc _
      have HD5 : Hid (CBox W5 W3.heap.size (.slice r0 (X i []).length l0) (.slice r1 (g (X i [])).length l1) (.slice r2 0 l2)) := by show _ = _; rw [← hW5]; exact heap_alloc_new W3 _
      have HB5 := hide (HB3.out.ext HE35.out)
      have HL1 := hide (HCL1.out.ext HE35.out)
      have HL2 := hide (HCL2.out.ext HE35.out)
      have HE5 := hide (HE3.out.trans HE35.out)
      have HE25 := hide (HE23.out.trans HE35.out)
      have HO5 := hide (HO3.out.ext HE35.out)
      have HFN := hide (HFF.out i hlt)
      have HHI := hide (HHL.out i hlt)
      have HKI := hide (HKS.out i hlt)
      have HLI := hide (HLS.out i hlt)
      have HXI := hide (HXN.out i hlt)
      rw [hW5]
      clear hW5 HB3 HCL1 HCL2 HE3 HE23 HO3 HCOL
      generalize h (f (X i [])) (g (X i [])) = H at HFN HHI HKI HLI
      generalize (f (X i [])).length = m1 at *
      generalize (g (X i [])).length = m2 at *
      generalize hm0 : (X i []).length = m0 at *
      clear hm0
      refine wp_region_own 14 [34, 35, 36, 37, 38, 39, 40, 41, 42, 43, 44, 45, 16, 17] (RcR (.func (.func fid) #[] #[]) (.slice q1 m1 k1) (.slice r1 m2 l1) (.agg #[.slice q0 m0 k0, .slice q1 m1 k1, .slice q2 0 k2]) (.agg #[.slice r0 m0 l0, .slice r1 m2 l1, .slice r2 0 l2]) (.pointer (some ⟨wr.heap.size, 1, none⟩)) (.pointer (some ⟨W3.heap.size, 1, none⟩)) H) (by kernel_rfl) (by kernel_rfl) rfl rfl (by decide) (show ∀ x ∈ [34, 35, 36, 37, 38, 39, 40, 41, 42, 43, 44, 45, 16, 17], x < 80 by decide) RcR.ext ?_ ?_
      · intro i' o' ho v1 w1 A hA hE1 hdep KK hKK
        subst hA
        simp only [putAll14, List.setIfInBounds_toArray, List.set_cons_zero, List.set_cons_succ] at hKK ⊢
        have hi' : i' < 14 := (List.getElem?_eq_some_iff.1 ho).1
        obtain rfl | rfl | rfl | rfl | rfl | rfl | rfl | rfl | rfl | rfl | rfl | rfl | rfl | rfl : i' = 0 ∨ i' = 1 ∨ i' = 2 ∨ i' = 3 ∨ i' = 4 ∨ i' = 5 ∨ i' = 6 ∨ i' = 7 ∨ i' = 8 ∨ i' = 9 ∨ i' = 10 ∨ i' = 11 ∨ i' = 12 ∨ i' = 13 := by omega
        · -- 0
          obtain rfl : _ = o' := Option.some.inj ho
          simp only [Act.put, List.getD_cons_zero, List.setIfInBounds_toArray, List.set_cons_zero, List.set_cons_succ] at hKK
          go_wp2_with fail
          exact ⟨rfl, hKK (.func (.func fid) #[] #[]) w1 _ rfl (Ext.refl _) rfl⟩
        · -- 1
          obtain rfl : _ = o' := Option.some.inj ho
          simp only [Act.put, List.getD_cons_zero, List.getD_cons_succ, List.setIfInBounds_toArray, List.set_cons_zero, List.set_cons_succ] at hKK
          go_wp2_with fail
          exact ⟨rfl, hKK (.pointer (some ⟨wr.heap.size, 1, none⟩)) w1 _ rfl (Ext.refl _) rfl⟩
        · -- 2
          obtain rfl : _ = o' := Option.some.inj ho
          simp only [Act.put, List.getD_cons_zero, List.getD_cons_succ, List.setIfInBounds_toArray, List.set_cons_zero, List.set_cons_succ] at hKK
          have h1 := hdep 1 (by kernel_rfl)
          replace h1 : v1 1 = (.pointer (some ⟨wr.heap.size, 1, none⟩)) := h1
          generalize v1 1 = z1 at *
          subst h1
          obtain ⟨c0, c1, c2, -, -, cz⟩ := (HB5.out.ext hE1).cells
          go_wp2_with fail
          exact ⟨rfl, hKK (.slice q1 m1 k1) w1 _ rfl (Ext.refl _) rfl⟩
        · -- 3
          obtain rfl : _ = o' := Option.some.inj ho
          simp only [Act.put, List.getD_cons_zero, List.getD_cons_succ, List.setIfInBounds_toArray, List.set_cons_zero, List.set_cons_succ] at hKK
          go_wp2_with fail
          exact ⟨rfl, hKK (.pointer (some ⟨W3.heap.size, 1, none⟩)) w1 _ rfl (Ext.refl _) rfl⟩
        · -- 4
          obtain rfl : _ = o' := Option.some.inj ho
          simp only [Act.put, List.getD_cons_zero, List.getD_cons_succ, List.setIfInBounds_toArray, List.set_cons_zero, List.set_cons_succ] at hKK
          have h3 := hdep 3 (by kernel_rfl)
          replace h3 : v1 3 = (.pointer (some ⟨W3.heap.size, 1, none⟩)) := h3
          generalize v1 3 = z3 at *
          subst h3
          obtain ⟨c0, c1, c2, -, -, cz⟩ := (HD5.out.ext hE1).cells
          go_wp2_with fail
          exact ⟨rfl, hKK (.slice r1 m2 l1) w1 _ rfl (Ext.refl _) rfl⟩
        · -- 5
          obtain rfl : _ = o' := Option.some.inj ho
          simp only [Act.put, List.getD_cons_zero, List.getD_cons_succ, List.setIfInBounds_toArray, List.set_cons_zero, List.set_cons_succ] at hKK
          have h0 := hdep 0 (by kernel_rfl)
          replace h0 : v1 0 = (.func (.func fid) #[] #[]) := h0
          have h2 := hdep 2 (by kernel_rfl)
          replace h2 : v1 2 = (.slice q1 m1 k1) := h2
          have h4 := hdep 4 (by kernel_rfl)
          replace h4 : v1 4 = (.slice r1 m2 l1) := h4
          generalize v1 0 = z0 at *
          subst h0
          generalize v1 2 = z2 at *
          subst h2
          generalize v1 4 = z4 at *
          subst h4
          go_wp2_with fail
          refine (HFN.out _ _ w1 (HL1.out.ext hE1) (HL2.out.ext hE1)).mono ?_
          rintro e w9 ⟨u, rfl, hu, hE9⟩
          obtain ⟨_, _, eu, -⟩ := hu.sl_all
          subst eu
          go_wp2_with fail
          exact ⟨rfl, hKK _ w9 _ hu hE9 rfl⟩
        · -- 6
          obtain rfl : _ = o' := Option.some.inj ho
          simp only [Act.put, List.getD_cons_zero, List.getD_cons_succ, List.setIfInBounds_toArray, List.set_cons_zero, List.set_cons_succ] at hKK
          go_wp2_with fail
          exact ⟨rfl, hKK (.func (.func fid) #[] #[]) w1 _ rfl (Ext.refl _) rfl⟩
        · -- 7
          obtain rfl : _ = o' := Option.some.inj ho
          simp only [Act.put, List.getD_cons_zero, List.getD_cons_succ, List.setIfInBounds_toArray, List.set_cons_zero, List.set_cons_succ] at hKK
          obtain ⟨c0, c1, c2, -, -, cz⟩ := (HB5.out.ext hE1).cells
          go_wp2_with fail
          exact ⟨rfl, hKK (.agg #[.slice q0 m0 k0, .slice q1 m1 k1, .slice q2 0 k2]) w1 _ rfl (Ext.refl _) rfl⟩
        · -- 8
          obtain rfl : _ = o' := Option.some.inj ho
          simp only [Act.put, List.getD_cons_zero, List.getD_cons_succ, List.setIfInBounds_toArray, List.set_cons_zero, List.set_cons_succ] at hKK
          have h7 := hdep 7 (by kernel_rfl)
          replace h7 : v1 7 = (.agg #[.slice q0 m0 k0, .slice q1 m1 k1, .slice q2 0 k2]) := h7
          generalize v1 7 = z7 at *
          subst h7
          go_wp2_with fail
          refine (pcalm0_any (.slice q0 m0 k0) (.slice q1 m1 k1) q0 q1 q2 m0 k0 m1 k1 k2 rfl rfl w1).mono ?_
          rintro e w9 ⟨rfl, hE9⟩
          go_wp2_with fail
          exact ⟨rfl, hKK (.slice q1 m1 k1) w9 _ rfl hE9 rfl⟩
        · -- 9
          obtain rfl : _ = o' := Option.some.inj ho
          simp only [Act.put, List.getD_cons_zero, List.getD_cons_succ, List.setIfInBounds_toArray, List.set_cons_zero, List.set_cons_succ] at hKK
          obtain ⟨c0, c1, c2, -, -, cz⟩ := (HD5.out.ext hE1).cells
          go_wp2_with fail
          exact ⟨rfl, hKK (.agg #[.slice r0 m0 l0, .slice r1 m2 l1, .slice r2 0 l2]) w1 _ rfl (Ext.refl _) rfl⟩
        · -- 10
          obtain rfl : _ = o' := Option.some.inj ho
          simp only [Act.put, List.getD_cons_zero, List.getD_cons_succ, List.setIfInBounds_toArray, List.set_cons_zero, List.set_cons_succ] at hKK
          have h9 := hdep 9 (by kernel_rfl)
          replace h9 : v1 9 = (.agg #[.slice r0 m0 l0, .slice r1 m2 l1, .slice r2 0 l2]) := h9
          generalize v1 9 = z9 at *
          subst h9
          go_wp2_with fail
          refine (pcalm0_any (.slice r0 m0 l0) (.slice r1 m2 l1) r0 r1 r2 m0 l0 m2 l1 l2 rfl rfl w1).mono ?_
          rintro e w9 ⟨rfl, hE9⟩
          go_wp2_with fail
          exact ⟨rfl, hKK (.slice r1 m2 l1) w9 _ rfl hE9 rfl⟩
        · -- 11
          obtain rfl : _ = o' := Option.some.inj ho
          simp only [Act.put, List.getD_cons_zero, List.getD_cons_succ, List.setIfInBounds_toArray, List.set_cons_zero, List.set_cons_succ] at hKK
          have h6 := hdep 6 (by kernel_rfl)
          replace h6 : v1 6 = (.func (.func fid) #[] #[]) := h6
          have h8 := hdep 8 (by kernel_rfl)
          replace h8 : v1 8 = (.slice q1 m1 k1) := h8
          have h10 := hdep 10 (by kernel_rfl)
          replace h10 : v1 10 = (.slice r1 m2 l1) := h10
          generalize v1 6 = z6 at *
          subst h6
          generalize v1 8 = z8 at *
          subst h8
          generalize v1 10 = z10 at *
          subst h10
          go_wp2_with fail
          refine (HFN.out _ _ w1 (HL1.out.ext hE1) (HL2.out.ext hE1)).mono ?_
          rintro e w9 ⟨u, rfl, hu, hE9⟩
          obtain ⟨_, _, eu, -⟩ := hu.sl_all
          subst eu
          go_wp2_with fail
          exact ⟨rfl, hKK _ w9 _ hu hE9 rfl⟩
        · -- 12
          obtain rfl : _ = o' := Option.some.inj ho
          simp only [Act.put, List.getD_cons_zero, List.getD_cons_succ, List.setIfInBounds_toArray, List.set_cons_zero, List.set_cons_succ] at hKK
          have h5 := hdep 5 (by kernel_rfl)
          replace h5 : Rows2 icells 1 w1 (v1 5) H := h5
          obtain ⟨q, k, eu, -⟩ := h5.sl_all
          go_wp2_with fail
          exact ⟨rfl, hKK _ w1 _ h5 (Ext.refl _) rfl⟩
        · -- 13
          obtain rfl : _ = o' := Option.some.inj ho
          simp only [Act.put, List.getD_cons_zero, List.getD_cons_succ, List.setIfInBounds_toArray, List.set_cons_zero, List.set_cons_succ] at hKK
          have h11 := hdep 11 (by kernel_rfl)
          replace h11 : Rows2 icells 1 w1 (v1 11) H := h11
          obtain ⟨q, k, eu, -⟩ := h11.sl_all
          go_wp2_with fail
          exact ⟨rfl, hKK _ w1 _ h11 (Ext.refl _) rfl⟩
      · intro v1 W6 hE6 hv1
        simp only [putAll14, List.setIfInBounds_toArray, List.set_cons_zero, List.set_cons_succ]
        have hx := hv1 12 (by decide)
        have hy := hv1 13 (by decide)
        replace hx : Rows2 icells 1 W6 (v1 12) H := hx
        replace hy : Rows2 icells 1 W6 (v1 13) H := hy
        have HX6 := hide hx
        have HY6 := hide hy
        obtain ⟨qx, kx, ex, -⟩ := hx.sl_all
        obtain ⟨qy', ky', ey, -⟩ := hy.sl_all
        generalize v1 12 = zx at *
        generalize v1 13 = zy at *
        subst ex ey
        clear hx hy hv1
        have HE6 := hide (HE5.out.trans hE6)
        have HE26 := hide (HE25.out.trans hE6)
        have HO6 := hide (HO5.out.ext hE6)
        have HB6 := hide (HB5.out.ext hE6)
        clear hE6 HB5 HD5 HL1 HL2 HFN HO5 HE5 HE25
        obtain ⟨hm, hrow⟩ := HHI.out
        have HRW := hide hrow
        obtain ⟨px, cx, e0, -, -, hp⟩ := HROW.out.int_all
        injection e0 with e1 e2 e3
        subst e2
        subst e1 e3
        obtain ⟨bx, ox, hq, -⟩ := hp (by have := HXI.out; omega)
        subst hq
        have HMD := hide (pmade_any (X i []) H bx ox k0 (.slice qx H.length kx) (.slice qy' H.length ky') W6 (HROW.out.ext HE6.out) HX6.out HY6.out (by have := HXI.out; omega) (by omega) (fun j hj => by rw [HRW.out j hj]; omega))
        obtain ⟨c0, c1, c2, -, -, cz⟩ := HB6.out.cells
        have hki : (ks i).length ≤ 100 := by have := HKL.out i; omega
        have HFI : Hid (fs (i + 1) = (fs i && decide (0 < H.length))) := by
          show _ = _
          rw [HLI.out]
          congr 1
          cases H <;> simp
        have hms : decide (1024 < H.length) = false := by rw [decide_eq_false_iff_not]; omega
        have hms2 : decide ((1024 : Int) < (H.length : Int)) = false := by rw [decide_eq_false_iff_not]; omega
        have HKF := hide (hm)
        clear hm hrow hp
        generalize hfx : fs i = fx at *
        clear hfx
        generalize hkx : ks i = kx0 at *
        clear hkx
        generalize hhl : H.length = hl at *
        have HHL2 := hide hhl
        clear hhl
        have HD2 : Hid (decide ((0 : Int) < (hl : Int)) = decide (0 < hl)) := by show _ = _; rw [decide_eq_decide]; omega
        generalize hdb : decide (0 < hl) = db at *
        cases fx
        · go_wp2_with fail
          refine HMD.out.mono ?_
          rintro e W8 ⟨⟨y0, y1, y2⟩, rfl, hca, hE8⟩
          obtain ⟨qa, ka, ea, -⟩ := hca.inp.1.int_all
          obtain ⟨qb, kb, eb⟩ := hca.out.sl
          obtain ⟨qd, kd, ed⟩ := hca.calm.sl
          dsimp only at ea eb ed
          subst ea eb ed
          have HCA := hide hca
          have HE8 := hide (HE6.out.trans hE8)
          have HE28 := hide (HE26.out.trans hE8)
          obtain ⟨vs, hvo, hvl, hvc⟩ := HO6.out.ext hE8
          obtain ⟨qv, kv, ev⟩ := hvo.sl
          have HVO := hide hvo
          have HVC := hide hvc
          have HVL := hide hvl
          clear hca hE8 hvo hvc c0 c1 c2 cz
          have hvl100 : vs.length ≤ 100 := by omega
          have ev2 : Value.slice qy kx0.length ky = .slice qv vs.length kv := ev
          injection ev2 with e1 e2 e3
          clear e2
          subst e1 e3
          clear ev
          clear hvl
          go_wp2_with (at_builtin; refine wpList_append1 rfl (.tmp 68) (.tmp 74) 31 rfl w2.heap.size 60 (.agg #[.slice none 0 0, .slice none 0 0, .slice none 0 0]) 3 72 Tryz.underlying31 case_info rfl (by decide) _ vs (.slice qa (X i []).length ka, .slice qb H.length kb, .slice qd 0 kd) W8.heap.size rfl (HVO.out.alloc _) rfl (cell_new_t W8 (.slice qa (X i []).length ka, .slice qb H.length kb, .slice qd 0 kd)) (by intro z hz; simp only [List.mem_cons, List.not_mem_nil, or_false] at hz; rcases hz with rfl | rfl | rfl <;> rfl) (by omega) (by decide) (by have := HE28.out.size; simp only [World.size_alloc]; omega) ?_; intro v' X3 hown3 hg3 hf3)
          obtain ⟨g3, c3', rfl, -⟩ := hf3
          have HP := hide (CsOwn.push (HVO.out.alloc _) HVL.out (fun j t d ht hd => (HVC.out j t d ht hd).ext ((Ext.refl _).alloc _)) (HCA.out.ext ((Ext.refl _).alloc _)) hg3 hown3)
          have HX3 := hide ((HE28.out.alloc (.cells #[.slice qa (X i []).length ka, .slice qb H.length kb, .slice qd 0 kd] 60)).grown hg3 (fun k hk => HVO.out.block_ge k hk))
          clear hown3 hg3
          go_wp2_with fail
          go_roundw
          case rel => exact ⟨i + 1, by omega, by go_num, by rw [HFI.out]; rfl, rfl, by rw [HKI.out]; exact HP.out, HX3.out⟩
          case measure => simp [intOf]; omega
        · cases db
          · have hdz := HD2.out
            go_wp2_with fail
            refine HMD.out.mono ?_
            rintro e W8 ⟨⟨y0, y1, y2⟩, rfl, hca, hE8⟩
            obtain ⟨qa, ka, ea, -⟩ := hca.inp.1.int_all
            obtain ⟨qb, kb, eb⟩ := hca.out.sl
            obtain ⟨qd, kd, ed⟩ := hca.calm.sl
            dsimp only at ea eb ed
            subst ea eb ed
            have HCA := hide hca
            have HE8 := hide (HE6.out.trans hE8)
            have HE28 := hide (HE26.out.trans hE8)
            obtain ⟨vs, hvo, hvl, hvc⟩ := HO6.out.ext hE8
            obtain ⟨qv, kv, ev⟩ := hvo.sl
            have HVO := hide hvo
            have HVC := hide hvc
            have HVL := hide hvl
            clear hca hE8 hvo hvc c0 c1 c2 cz
            have hvl100 : vs.length ≤ 100 := by omega
            have ev2 : Value.slice qy kx0.length ky = .slice qv vs.length kv := ev
            injection ev2 with e1 e2 e3
            clear e2
            subst e1 e3
            clear ev
            clear hvl
            go_wp2_with (at_builtin; refine wpList_append1 rfl (.tmp 68) (.tmp 74) 31 rfl w2.heap.size 60 (.agg #[.slice none 0 0, .slice none 0 0, .slice none 0 0]) 3 72 Tryz.underlying31 case_info rfl (by decide) _ vs (.slice qa (X i []).length ka, .slice qb H.length kb, .slice qd 0 kd) W8.heap.size rfl (HVO.out.alloc _) rfl (cell_new_t W8 (.slice qa (X i []).length ka, .slice qb H.length kb, .slice qd 0 kd)) (by intro z hz; simp only [List.mem_cons, List.not_mem_nil, or_false] at hz; rcases hz with rfl | rfl | rfl <;> rfl) (by omega) (by decide) (by have := HE28.out.size; simp only [World.size_alloc]; omega) ?_; intro v' X3 hown3 hg3 hf3)
            obtain ⟨g3, c3', rfl, -⟩ := hf3
            have HP := hide (CsOwn.push (HVO.out.alloc _) HVL.out (fun j t d ht hd => (HVC.out j t d ht hd).ext ((Ext.refl _).alloc _)) (HCA.out.ext ((Ext.refl _).alloc _)) hg3 hown3)
            have HX3 := hide ((HE28.out.alloc (.cells #[.slice qa (X i []).length ka, .slice qb H.length kb, .slice qd 0 kd] 60)).grown hg3 (fun k hk => HVO.out.block_ge k hk))
            clear hown3 hg3
            go_wp2_with fail
            go_roundw
            case rel => exact ⟨i + 1, by omega, by go_num, by rw [HFI.out]; rfl, rfl, by rw [HKI.out]; exact HP.out, HX3.out⟩
            case measure => simp [intOf]; omega
          · have hdz := HD2.out
            go_wp2_with fail
            refine HMD.out.mono ?_
            rintro e W8 ⟨⟨y0, y1, y2⟩, rfl, hca, hE8⟩
            obtain ⟨qa, ka, ea, -⟩ := hca.inp.1.int_all
            obtain ⟨qb, kb, eb⟩ := hca.out.sl
            obtain ⟨qd, kd, ed⟩ := hca.calm.sl
            dsimp only at ea eb ed
            subst ea eb ed
            have HCA := hide hca
            have HE8 := hide (HE6.out.trans hE8)
            have HE28 := hide (HE26.out.trans hE8)
            obtain ⟨vs, hvo, hvl, hvc⟩ := HO6.out.ext hE8
            obtain ⟨qv, kv, ev⟩ := hvo.sl
            have HVO := hide hvo
            have HVC := hide hvc
            have HVL := hide hvl
            clear hca hE8 hvo hvc c0 c1 c2 cz
            have hvl100 : vs.length ≤ 100 := by omega
            have ev2 : Value.slice qy kx0.length ky = .slice qv vs.length kv := ev
            injection ev2 with e1 e2 e3
            clear e2
            subst e1 e3
            clear ev
            clear hvl
            go_wp2_with (at_builtin; refine wpList_append1 rfl (.tmp 68) (.tmp 74) 31 rfl w2.heap.size 60 (.agg #[.slice none 0 0, .slice none 0 0, .slice none 0 0]) 3 72 Tryz.underlying31 case_info rfl (by decide) _ vs (.slice qa (X i []).length ka, .slice qb H.length kb, .slice qd 0 kd) W8.heap.size rfl (HVO.out.alloc _) rfl (cell_new_t W8 (.slice qa (X i []).length ka, .slice qb H.length kb, .slice qd 0 kd)) (by intro z hz; simp only [List.mem_cons, List.not_mem_nil, or_false] at hz; rcases hz with rfl | rfl | rfl <;> rfl) (by omega) (by decide) (by have := HE28.out.size; simp only [World.size_alloc]; omega) ?_; intro v' X3 hown3 hg3 hf3)
            obtain ⟨g3, c3', rfl, -⟩ := hf3
            have HP := hide (CsOwn.push (HVO.out.alloc _) HVL.out (fun j t d ht hd => (HVC.out j t d ht hd).ext ((Ext.refl _).alloc _)) (HCA.out.ext ((Ext.refl _).alloc _)) hg3 hown3)
            have HX3 := hide ((HE28.out.alloc (.cells #[.slice qa (X i []).length ka, .slice qb H.length kb, .slice qd 0 kd] 60)).grown hg3 (fun k hk => HVO.out.block_ge k hk))
            clear hown3 hg3
            go_wp2_with fail
            go_roundw
            case rel => exact ⟨i + 1, by omega, by go_num, by rw [HFI.out]; rfl, rfl, by rw [HKI.out]; exact HP.out, HX3.out⟩
            case measure => simp [intOf]; omega
    · obtain rfl : i = n := by omega
      go_wp2_with fail
      go_ret3
      refine ⟨.slice qy (ks i).length ky, by rw [HLN.out]; rfl, ?_, HE.out.trans HE2.out⟩
      have h := HO.out
      rw [HKN.out] at h ⊢
      exact h.mono HE.out.size
end Go.Proofs.YthkididgbaamcaaGreatDoor

namespace Go.Proofs.YthkididgbaamcaaGreatDoor
open Go.RowKit
attribute [local go_sem] Oper.semAt_some

theorem pair_zero {N Mi Mo : Nat} {f g : List Int → List (List Int)} (hf : PlainTk N Mi Mo f) (hg : PlainTk N Mi Mo g) : pairE (tkOf N Mi Mo f) (tkOf N Mi Mo g) = 0 := by
  unfold pairE
  rw [if_neg (fun k => k hf.ok), if_neg (fun k => k hg.ok), if_neg (fun k => k rfl)]
theorem CsOwn.store4 {W : World} {base g : Nat} {r : Value} {cs : List Cs} (h : CsOwn W base r cs) {u0 u1 u2 u3 : Value} (hT : TBox W g u0 u1 u2 u3) (hg : g < base) (v0 v1 v2 v3 : Value) :
    CsOwn ((((W.setCell ⟨g, 0, none⟩ v0).setCell ⟨g, 1, none⟩ v1).setCell ⟨g, 2, none⟩ v2).setCell ⟨g, 3, none⟩ v3) base r cs := by
  obtain ⟨vs, h1, h2, h3⟩ := h
  exact ⟨vs, own_store4 h1 hg _ _ _ _, h2, fun i t c ht hc => (h3 i t c ht hc).stay (hT.stay4 _ _ _ _)⟩
theorem CsOwn.task {W : World} {base : Nat} {r : Value} {cs : List Cs} (h : CsOwn W base r cs) (hl : cs.length ≤ 17592186044416) (n i o : Int) : TkAt W (.agg #[.int .i64 n, .int .i64 i, .int .i64 o, r]) ⟨n, i, o, cs⟩ := by
  obtain ⟨vs, h1, h2, h3⟩ := h
  exact ⟨r, vs, rfl, h2, h1.row (by omega), h3⟩
theorem TkAt.plain {N Mi Mo : Nat} {f : List Int → List (List Int)} (hf : PlainTk N Mi Mo f) {w : World} {v : Value} (hv : TkAt w v (tkOf N Mi Mo f)) : ∃ p c, v = .agg #[.int .i64 N, .int .i64 Mi, .int .i64 Mo, .slice p (vecs Mi N).length c] := by
  obtain ⟨p, c, e, -⟩ := hv.all_ hf.lens
  rw [hf.len_] at e
  exact ⟨p, c, e⟩
theorem meetL_row {N Mi Mo : Nat} {f g : List Int → List (List Int)} (hf : PlainTk N Mi Mo f) (x : List Int) : (meetL (f x) (g x)).length ≤ 100 ∧ ∀ y ∈ meetL (f x) (g x), y.length = N :=
  ⟨Nat.le_trans (List.length_filter_le _ _) (by have := hf.len x; omega), fun y hy => hf.row x y (mem_filt hy)⟩
set_option maxRecDepth 16000 in
set_option maxHeartbeats 2000000 in
theorem pmeet_any {N Mi Mo : Nat} {f g : List Int → List (List Int)} (hf : PlainTk N Mi Mo f) (hg : PlainTk N Mi Mo g) (v u : Value) (w : World) (hv : TkAt w v (tkOf N Mi Mo f)) (hu : TkAt w u (tkOf N Mi Mo g)) :
    Calls Tryz.prog 10 #[v, u] w (RetV2 (fun r w' => TkAt w' r (meetS N Mi Mo f g).1) (meetS N Mi Mo f g).2 w) := by
  have HP : Hid (∀ W, Ext w W → Calls Tryz.prog 34 #[v, u] W fun e w' => e = .returned (.int .i64 0) ∧ Ext W w') := fun W hW => by
    have := ppair_any (tkOf N Mi Mo f) (tkOf N Mi Mo g) v u W ((hv.ext hW).rep hf.lens) ((hu.ext hW).rep hg.lens)
    rwa [pair_zero hf hg] at this
  have HC := hide (fun W (hW : Ext w W) => pcomb_any hf hg meetL 36 enters_pmeet1 (fun x _ u t W h1 h2 => pmeet1_any (f x) (g x) u t W (h1.rows2 (by have := hf.len x; omega)) (h2.rows2 (by have := hg.len x; omega)) (by have := hf.len x; omega)) (fun x _ => meetL_row hf x) v u W (hv.ext hW) (hu.ext hW))
  have hnl : ((vecs Mi N).map fun x => (⟨x, meetL (f x) (g x), []⟩ : Cs)).length = (vecs Mi N).length := List.length_map _
  have h4 : (vecs Mi N).length ≤ 4 := by rw [vecs_len]; exact hf.sm.fewI
  have h1 : 0 < (vecs Mi N).length := List.length_pos_iff.2 (vecs_ne hf.sm.i1)
  have HS1 : Hid (emptyB N Mi (fun x => meetL (f x) (g x)) = true → meetS N Mi Mo f g = (.zero, 16)) := fun h => if_pos h
  have HS2 : Hid (emptyB N Mi (fun x => meetL (f x) (g x)) = false → meetS N Mi Mo f g = (⟨N, Mi, Mo, (vecs Mi N).map fun x => ⟨x, meetL (f x) (g x), []⟩⟩, 0)) := fun h => if_neg (by rw [h]; decide)
  obtain ⟨p, c, rfl⟩ := hv.plain hf
  obtain ⟨q, d, rfl⟩ := hu.plain hg
  generalize meetS N Mi Mo f g = res at HS1 HS2 ⊢
  generalize emptyB N Mi (fun x => meetL (f x) (g x)) = eb at HC HS1 HS2
  generalize ((vecs Mi N).map fun x => (⟨x, meetL (f x) (g x), []⟩ : Cs)) = cs at HC HS2 hnl
  generalize (vecs Mi N).length = n at *
  clear hv hu hf hg
  obtain ⟨w2, hw2⟩ : ∃ w2, ((w.alloc (.cells #[.int .i64 N, .int .i64 Mi, .int .i64 Mo, .slice p n c] 33)).alloc (.cells #[.int .i64 N, .int .i64 Mi, .int .i64 Mo, .slice q n d] 33)).alloc (.cells #[.int .i64 0, .int .i64 0, .int .i64 0, .slice none 0 0] 33) = w2 := ⟨_, rfl⟩
  have HE : Hid (Ext w w2) := by show Ext _ _; rw [← hw2]; exact (((Ext.refl w).alloc _).alloc _).alloc _
  have HT : Hid (TBox w2 w.heap.size (.int .i64 N) (.int .i64 Mi) (.int .i64 Mo) (.slice p n c)) := by
    show _ = _
    rw [← hw2, Below.heap_alloc _ _ _ (by simp; omega), Below.heap_alloc _ _ _ (by simp)]
    exact heap_alloc_new w _
  have HU : Hid (TBox w2 (w.heap.size + 1) (.int .i64 N) (.int .i64 Mi) (.int .i64 Mo) (.slice q n d)) := by show _ = _; rw [← hw2]; exact at3_1 _ _ _ _ _ _ _
  have HB : Hid (TBox w2 (w.heap.size + 1 + 1) (.int .i64 0) (.int .i64 0) (.int .i64 0) (.slice none 0 0)) := by show _ = _; rw [← hw2]; exact at3_2 _ _ _ _ _ _ _
  have HW2 := hide hw2
  clear hw2
  obtain ⟨t0, t1, t2, t3⟩ := HT.out.cells
  obtain ⟨u0, u1, u2, u3⟩ := HU.out.cells
  have z0 := lt_of_heap HT.out
  have z1 := lt_of_heap HU.out
  have HNL := hide hnl
  clear hnl
  go_enter Tryz.func10, Tryz.ntmps10
  go_wp2_with fail
  rw [HW2.out]
  go_wp2_with fail
  refine (HP.out _ HE.out).mono ?_
  rintro e W1 ⟨rfl, hE1⟩
  have HE1 := hide hE1
  clear t0 t1 t2 t3 u0 u1 u2 u3 z0 z1 hE1
  obtain ⟨t0, t1, t2, t3⟩ := (HT.out.ext HE1.out).cells
  obtain ⟨u0, u1, u2, u3⟩ := (HU.out.ext HE1.out).cells
  have z0 := lt_of_heap (HT.out.ext HE1.out)
  have z1 := lt_of_heap (HU.out.ext HE1.out)
  go_wp2_with fail
  refine (HC.out _ (HE.out.trans HE1.out)).mono ?_
  rintro e W2 ⟨r, rfl, hcs, hE2⟩
  have HE2 := hide (HE1.out.trans hE2)
  have HCS := hide (hcs.mono (show w.heap.size + 1 + 1 + 1 ≤ W1.heap.size from lt_of_heap (HB.out.ext HE1.out)))
  obtain ⟨qr, kr, er⟩ := hcs.sl
  rw [HNL.out] at er
  subst er
  clear t0 t1 t2 t3 u0 u1 u2 u3 z0 z1 hE2 hcs
  obtain ⟨t0, t1, t2, t3⟩ := (HT.out.ext HE2.out).cells
  obtain ⟨u0, u1, u2, u3⟩ := (HU.out.ext HE2.out).cells
  have HB2 := hide (HB.out.ext HE2.out)
  obtain ⟨b0, b1, b2, b3⟩ := HB2.out.cells
  obtain ⟨f0, f1, f2, f3⟩ := HB2.out.frozen
  have z0 := lt_of_heap (HT.out.ext HE2.out)
  have z1 := lt_of_heap (HU.out.ext HE2.out)
  have z2 := lt_of_heap HB2.out
  have hd : ((n : Int) == 0) = false := by rw [beq_eq_false_iff_ne]; omega
  have hd2 : (n == 0) = false := by rw [beq_eq_false_iff_ne]; omega
  have hfin := fun a b c d => ext_store4 (HE.out.trans HE2.out) (show w.heap.size ≤ w.heap.size + 1 + 1 by omega) a b c d
  have HFIN := hide hfin
  clear hfin
  cases eb
  · have HR := hide (HS2.out rfl)
    go_wp2_with fail
    refine leave_task rfl rfl rfl rfl (HB2.out.store _ _ _ _) ?_
    rw [HR.out]
    refine ⟨_, rfl, ?_, HFIN.out _ _ _ _⟩
    have ht := (HCS.out.store4 HB2.out (by omega) (.int .i64 N) (.int .i64 Mi) (.int .i64 Mo) (.slice qr n kr)).task (by have := HNL.out; omega) N Mi Mo
    simpa using ht
  · have HR := hide (HS1.out rfl)
    go_wp2_with fail
    refine leave_task rfl rfl rfl rfl (HB2.out.store _ _ _ _) ?_
    rw [HR.out]
    exact ⟨_, rfl, TkAt.zero _, HFIN.out _ _ _ _⟩
end Go.Proofs.YthkididgbaamcaaGreatDoor

namespace Go.Proofs.YthkididgbaamcaaGreatDoor
open Go.RowKit
attribute [local go_sem] Oper.semAt_some

/-- Of two cases that whose input comes first. -/
theorem pjoin3_any (a b : List Int) (x y : Value × Value × Value) (W : World) (hx : Row icells 1 W x.1 a) (hy : Row icells 1 W y.1 b) :
    Calls Tryz.prog 48 #[.agg (tenc x).toArray, .agg (tenc y).toArray] W fun e w' => e = .returned (.int .i64 (ordL a b)) ∧ ∃ q os', w' = Go.Sort.grow (W.drewN q) os' := by
  obtain ⟨x0, x1, x2⟩ := x
  obtain ⟨y0, y1, y2⟩ := y
  dsimp only at hx hy
  have hgr : (W.alloc (.cells #[x0, x1, x2] 60)).alloc (.cells #[y0, y1, y2] 60) = Go.Sort.grow W (#[.cells #[x0, x1, x2] 60 (0, 0)] ++ #[.cells #[y0, y1, y2] 60 (0, 0)]) := by
    rw [Go.Sort.alloc_eq_grow, Go.Sort.alloc_eq_grow, Go.Sort.grow_grow]
  obtain ⟨W2, hW2⟩ : ∃ W2, (W.alloc (.cells #[x0, x1, x2] 60)).alloc (.cells #[y0, y1, y2] 60) = W2 := ⟨_, rfl⟩
  have HE : Hid (Ext W W2) := by show Ext _ _; rw [← hW2]; exact ((Ext.refl W).alloc _).alloc _
  have HX : Hid (CBox W2 W.heap.size x0 x1 x2) := by show _ = _; rw [← hW2, Below.heap_alloc _ _ _ (by simp)]; exact heap_alloc_new W _
  have HY : Hid (CBox W2 (W.heap.size + 1) y0 y1 y2) := by
    show _ = _
    rw [← hW2]
    have := heap_alloc_new (W.alloc (.cells #[x0, x1, x2] 60)) (.cells #[y0, y1, y2] 60)
    rwa [World.size_alloc] at this
  rw [hW2] at hgr
  have HGR := hide hgr
  have HW2 := hide hW2
  have HC := hide (scmpE_any a b x0 y0 W2 (hx.ext HE.out) (hy.ext HE.out))
  obtain ⟨p, c, rfl, -⟩ := hx.int_all
  obtain ⟨q, d, rfl, -⟩ := hy.int_all
  obtain ⟨c0, c1, c2, -, -, cz⟩ := HX.out.cells
  obtain ⟨d0, d1, d2, -, -, dz⟩ := HY.out.cells
  clear hx hy hgr hW2
  generalize ordL a b = res at HC ⊢
  unfold tenc
  go_enter Tryz.func48, Tryz.ntmps48
  go_wp2_with fail
  rw [HW2.out]
  go_wp2_with fail
  refine HC.out.mono ?_
  rintro e w1 ⟨rfl, rfl⟩
  go_wp2_with fail
  go_ret
  exact ⟨rfl, 0, _, HGR.out⟩
def srtCRen : Go.Shelf.Ren := ⟨fun | 6 => 47 | 14 => 81 | 15 => 82 | 20 => 106 | 21 => 107 | 22 => 108 | 23 => 109 | 24 => 110 | 25 => 111 | 26 => 112 | 27 => 113 | 28 => 114 | 29 => 115 | 46 => 142 | 47 => 143 | 48 => 144 | 49 => 145 | 50 => 146 | 57 => 154 | n => n, fun | 0 => 0 | 3 => 3 | 4 => 4 | 5 => 5 | 9 => 9 | 22 => 31 | 24 => 60 | 25 => 83 | 39 => 112 | 45 => 130 | 46 => 131 | 50 => 135 | 53 => 138 | 55 => 140 | 66 => 152 | 70 => 156 | 76 => 160 | 77 => 50 | n => n, fun | n => n⟩
set_option maxRecDepth 100000 in
theorem srtCLays : Go.Proofs.SlLaysF0.n6 Tryz.prog srtCRen := {
  mixed := by kernel_rfl
  f6 := ⟨"slices.SortFunc[[]roundtable/api.Case,roundtable/api.Case]", by kernel_rfl, Tryz.func47.trans (congrArg some (by kernel_rfl))⟩
  f14 := ⟨"slices.pdqsortCmpFunc[roundtable/api.Case]", by kernel_rfl, Tryz.func81.trans (congrArg some (by kernel_rfl))⟩
  f15 := Tryz.func82.trans (congrArg some (by kernel_rfl))
  f20 := ⟨"slices.insertionSortCmpFunc[roundtable/api.Case]", by kernel_rfl, Tryz.func106.trans (congrArg some (by kernel_rfl))⟩
  f21 := ⟨"slices.heapSortCmpFunc[roundtable/api.Case]", by kernel_rfl, Tryz.func107.trans (congrArg some (by kernel_rfl))⟩
  f22 := ⟨"slices.breakPatternsCmpFunc[roundtable/api.Case]", by kernel_rfl, Tryz.func108.trans (congrArg some (by kernel_rfl))⟩
  f23 := ⟨"slices.choosePivotCmpFunc[roundtable/api.Case]", by kernel_rfl, Tryz.func109.trans (congrArg some (by kernel_rfl))⟩
  f24 := ⟨"slices.reverseRangeCmpFunc[roundtable/api.Case]", by kernel_rfl, Tryz.func110.trans (congrArg some (by kernel_rfl))⟩
  f25 := ⟨"slices.partialInsertionSortCmpFunc[roundtable/api.Case]", by kernel_rfl, Tryz.func111.trans (congrArg some (by kernel_rfl))⟩
  f26 := ⟨"slices.partitionEqualCmpFunc[roundtable/api.Case]", by kernel_rfl, Tryz.func112.trans (congrArg some (by kernel_rfl))⟩
  f27 := ⟨"slices.partitionCmpFunc[roundtable/api.Case]", by kernel_rfl, Tryz.func113.trans (congrArg some (by kernel_rfl))⟩
  f28 := Tryz.func114.trans (congrArg some (by kernel_rfl))
  f29 := Tryz.func115.trans (congrArg some (by kernel_rfl))
  f46 := ⟨"slices.siftDownCmpFunc[roundtable/api.Case]", by kernel_rfl, Tryz.func142.trans (congrArg some (by kernel_rfl))⟩
  f47 := Tryz.func143.trans (congrArg some (by kernel_rfl))
  f48 := Tryz.func144.trans (congrArg some (by kernel_rfl))
  f49 := ⟨"slices.medianAdjacentCmpFunc[roundtable/api.Case]", by kernel_rfl, Tryz.func145.trans (congrArg some (by kernel_rfl))⟩
  f50 := ⟨"slices.medianCmpFunc[roundtable/api.Case]", by kernel_rfl, Tryz.func146.trans (congrArg some (by kernel_rfl))⟩
  f57 := ⟨"slices.order2CmpFunc[roundtable/api.Case]", by kernel_rfl, Tryz.func154.trans (congrArg some (by kernel_rfl))⟩
  t0 := Tryz.underlying0
  a0 := Tryz.isAgg0
  z0 := Tryz.sizeOf0
  v0 := Tryz.zeroValue0
  t3 := Tryz.underlying3
  a3 := Tryz.isAgg3
  z3 := Tryz.sizeOf3
  v3 := Tryz.zeroValue3
  t4 := Tryz.underlying4
  a4 := Tryz.isAgg4
  z4 := Tryz.sizeOf4
  v4 := Tryz.zeroValue4
  t5 := Tryz.underlying5
  a5 := Tryz.isAgg5
  z5 := Tryz.sizeOf5
  v5 := Tryz.zeroValue5
  t9 := Tryz.underlying9
  a9 := Tryz.isAgg9
  z9 := Tryz.sizeOf9
  v9 := Tryz.zeroValue9
  t22 := Tryz.underlying31
  a22 := Tryz.isAgg31
  z22 := Tryz.sizeOf31
  v22 := Tryz.zeroValue31
  t25 := Tryz.underlying83
  a25 := Tryz.isAgg83
  z25 := Tryz.sizeOf83
  v25 := Tryz.zeroValue83
  t39 := Tryz.underlying112
  a39 := Tryz.isAgg112
  z39 := Tryz.sizeOf112
  v39 := Tryz.zeroValue112
  t45 := Tryz.underlying130
  a45 := Tryz.isAgg130
  z45 := Tryz.sizeOf130
  v45 := Tryz.zeroValue130
  t46 := Tryz.underlying131
  a46 := Tryz.isAgg131
  z46 := Tryz.sizeOf131
  v46 := Tryz.zeroValue131
  t50 := Tryz.underlying135
  a50 := Tryz.isAgg135
  z50 := Tryz.sizeOf135
  v50 := Tryz.zeroValue135
  t53 := Tryz.underlying138
  a53 := Tryz.isAgg138
  z53 := Tryz.sizeOf138
  v53 := Tryz.zeroValue138
  t55 := Tryz.underlying140
  a55 := Tryz.isAgg140
  z55 := Tryz.sizeOf140
  v55 := Tryz.zeroValue140
  t66 := Tryz.underlying152
  a66 := Tryz.isAgg152
  z66 := Tryz.sizeOf152
  v66 := Tryz.zeroValue152
  t70 := Tryz.underlying156
  a70 := Tryz.isAgg156
  z70 := Tryz.sizeOf156
  v70 := Tryz.zeroValue156
  t76 := Tryz.underlying160
  a76 := Tryz.isAgg160
  z76 := Tryz.sizeOf160
  v76 := Tryz.zeroValue160
  t77 := Tryz.underlying50
  a77 := Tryz.isAgg50
  z77 := Tryz.sizeOf50
  v77 := Tryz.zeroValue50 }


abbrev CVr (w : World) : Type := { t : (Value × Value × Value) × List Int // RowE 3 icells 1 w t.1.1 t.2 ∧ t.1.2.1.oneCell' = true ∧ t.1.2.2.oneCell' = true }
instance (w : World) : Inhabited (CVr w) := ⟨⟨((.slice none 0 0, .slice none 0 0, .slice none 0 0), []), RowE.nil _ _ _ _, rfl, rfl⟩⟩
def cenc {w : World} (x : CVr w) : List Value := tenc x.1.1
def ccf {w : World} (x y : CVr w) : Int := ordL x.1.2 y.1.2
theorem ccf_swo (w : World) : Go.Sort.SWO (Go.Proofs.ltOf (ccf (w := w))) where
  irrefl x := by
    unfold Go.Proofs.ltOf ccf
    rw [ordL_zero.2 rfl]; rfl
  trans x y z h1 h2 := by
    unfold Go.Proofs.ltOf ccf at *
    rw [decide_eq_true_iff] at *
    have := ordL_trans (a := x.1.2) (b := y.1.2) (c := z.1.2) (by rcases ordL_cases x.1.2 y.1.2 with h | h | h <;> omega) (by rcases ordL_cases y.1.2 z.1.2 with h | h | h <;> omega)
    omega
  ntrans x y z h1 h2 := by
    unfold Go.Proofs.ltOf ccf at *
    rw [decide_eq_false_iff_not] at *
    have := ordL_le_trans (a := x.1.2) (b := y.1.2) (c := z.1.2) (by omega) (by omega)
    omega
theorem holds_ownC {w W : World} {base g n c : Nat} {e : TypeId} {l : List (CVr W)} (h : Own cenc 3 w base e (.slice (some ⟨g, 0, none⟩) n c) l) : Go.Sort.HoldsK cenc 3 w g 0 l.toArray := by
  intro j hj
  have hj : j < l.length * 3 := by simpa using hj
  obtain ⟨_, hl, h1 | ⟨g', cap, cur, h1, h2, h3, h4, h5, h6, h7⟩⟩ := h
  · exact absurd h1.1 (by intro k; cases k)
  injection h1 with h8 h9 h10
  injection h8 with h8
  injection h8 with h8
  subst h8
  refine ⟨?_, frozen_of h3⟩
  rw [Nat.zero_add, cell_of_row _ _ _ _ _ _ h3, Go.Sort.get_flatK cenc 3 _ j (by simpa using hj)]
  have hi : j / 3 < l.length := by omega
  have e1 : l.toArray[j / 3]! = l[j / 3] := by rw [getElem!_pos l.toArray _ (by simpa using hi), List.getElem_toArray]
  have e2 : (l.flatMap cenc)[j / 3 * 3 + j % 3]? = (cenc l[j / 3])[j % 3]? := flat_get (enc := cenc) (size := 3) (fun _ => rfl) l (j / 3) (j % 3) l[j / 3] (List.getElem?_eq_getElem hi) (by omega)
  rw [show j / 3 * 3 + j % 3 = j by omega, ← h7, List.getElem?_take, if_pos (by omega)] at e2
  rw [e1, ← Array.getElem?_toList, e2, getElem!_def]
  have : j % 3 < (cenc l[j / 3]).length := by show j % 3 < 3; omega
  rw [List.getElem?_eq_getElem this]
  rfl
/-- Cases whose inputs ascend lie as they lay behind slices.SortFunc. -/
theorem srtC_any (cs : List Cs) (g n c : Nat) (w : World) (base : Nat) (hn : n = cs.length) (ho : CsOwn w base (.slice (some ⟨g, 0, none⟩) n c) cs) (hl : cs.length ≤ 100000) (hasc : cs.Pairwise fun a b => ordL a.inp b.inp = -1) :
    Calls Tryz.prog 47 #[.slice (some ⟨g, 0, none⟩) n c, .func (.func 48) #[] #[]] w fun e w' => e = .returned (.tuple #[]) ∧ Ext w w' := by
  obtain ⟨vs, hown, hvl, hcs⟩ := ho
  have hone : ∀ t : Value × Value × Value, ∀ d : Cs, CaseAt w t d → t.2.1.oneCell' = true ∧ t.2.2.oneCell' = true := fun t d h => by
    obtain ⟨_, _, e1⟩ := h.out.sl
    obtain ⟨_, _, e2⟩ := h.calm.sl
    rw [e1, e2]; exact ⟨rfl, rfl⟩
  obtain ⟨L, hL1, hL2⟩ : ∃ L : List (CVr w), L.map (fun x => x.1.1) = vs ∧ L.map (fun x => x.1.2) = cs.map (·.inp) := by
    clear hown hasc hl hn
    induction vs generalizing cs with
    | nil =>
      have : cs = [] := List.eq_nil_of_length_eq_zero hvl.symm
      subst this
      exact ⟨[], rfl, rfl⟩
    | cons t vs ih =>
      match cs, hvl with
      | d :: cs, hvl =>
        obtain ⟨L, h1, h2⟩ := ih (cs := cs) (by simpa using hvl) fun i t c ht hc => hcs (i + 1) t c (by simpa using ht) (by simpa using hc)
        have hd := hcs 0 t d rfl rfl
        exact ⟨⟨(t, d.inp), hd.inp, hone t d hd⟩ :: L, by rw [List.map_cons, h1], by rw [List.map_cons, h2]; rfl⟩
  have hLl : L.length = n := by rw [hn, ← hvl, ← hL1, List.length_map]
  have hfl : L.flatMap cenc = vs.flatMap tenc := by rw [← hL1, List.flatMap_map]; rfl
  have hown2 : Own cenc 3 w base 60 (.slice (some ⟨g, 0, none⟩) n c) L := ⟨fun _ => rfl, by have h2 := hown.2; rw [hfl, hLl, hn, ← hvl]; rw [hn, ← hvl] at h2; exact h2⟩
  have hH := holds_ownC hown2
  obtain ⟨cur, fr, p1⟩ := hown.typed g rfl
  have hstrict : L.Pairwise fun a b => ccf a b = -1 := by
    have h1 : (L.map (fun x => x.1.2)).Pairwise fun a b => ordL a b = -1 := by
      rw [hL2, List.pairwise_map]; exact hasc
    rw [List.pairwise_map] at h1
    exact h1
  have h := Go.Proofs.AnyQ.slices_SortFunc srtCLays 3 Tryz.isAgg60 Tryz.sizeOf60 (cenc (w := w)) (fun _ => rfl) (fun x u hu => by
      obtain ⟨⟨⟨t0, t1, t2⟩, l⟩, h1, h2, h3⟩ := x
      obtain ⟨⟨p, c, e, _⟩, _⟩ := h1
      dsimp only at e h2 h3
      simp only [cenc, tenc, List.mem_cons, List.not_mem_nil, or_false] at hu
      rcases hu with rfl | rfl | rfl
      · rw [e]; rfl
      · exact h2
      · exact h3) ccf (ccf_swo w) 48 #[] g 0 c L.toArray w (fun _ _ => by kernel_rfl)
    (fun m os dk _ x y => by
      have hg : w.grownBy (Go.Proofs.sortWorldK cenc 3 w g 0 m dk os) (some g) := sw_grown (α := Value) id w g 0 m (Go.Sort.flatK cenc 3 dk) os
      have hr : ∀ z : CVr w, Row icells 1 (Go.Proofs.sortWorldK cenc 3 w g 0 m dk os) z.1.1.1 z.1.2 := fun z => (z.2.1.grown hg (fun k hk => by injection hk with hk; subst hk; exact ⟨_, _, p1⟩) (by decide)).1
      exact pjoin3_any x.1.2 y.1.2 x.1.1 y.1.1 _ (hr x) (hr y)) hH (lt_of_heap p1) (by simp; omega)
  rw [List.size_toArray, hLl] at h
  refine h.mono ?_
  rintro e w' ⟨he, d', m, os, hp, hs, rfl⟩
  refine ⟨he, ?_⟩
  obtain ⟨q1, -, q3⟩ := hp
  have hsz : d'.size = n := by rw [q1]; simpa using hLl
  have e1 : (d'.extract 0 n).toList = d'.toList := by rw [← hsz]; simp
  have e2 : (L.toArray.extract 0 n).toList = L := by rw [← hLl]; simp
  rw [e1, e2] at q3
  have hne : d'.toList.Pairwise fun a b => ccf a b ≠ 0 := (q3.pairwise_iff (fun {a b} h => by
      intro k
      unfold ccf at h k
      rw [ordL_swap, k] at h
      exact h (by decide))).2 (hstrict.imp fun {a b} h => by rw [h]; decide)
  have hpw : d'.toList.Pairwise fun a b => ccf a b = -1 := by
    refine List.pairwise_iff_getElem.2 fun i j hi hj hij => ?_
    have h1 := List.pairwise_iff_getElem.1 hne i j hi hj hij
    have hi' : i < d'.size := by simpa using hi
    have hj' : j < d'.size := by simpa using hj
    have h2 := hs i j (Nat.zero_le _) hij (by omega)
    unfold Go.Proofs.ltOf at h2
    rw [decide_eq_false_iff_not, getElem!_pos d' i hi', getElem!_pos d' j hj'] at h2
    rw [Array.getElem_toList, Array.getElem_toList] at h1 ⊢
    unfold ccf at *
    have h3 := ordL_swap d'[j].1.2 d'[i].1.2
    rcases ordL_cases d'[i].1.2 d'[j].1.2 with h | h | h
    · exact h
    · exact absurd h h1
    · omega
  have heq : d'.toList = L := pw_unique (R := fun a b : CVr w => ccf a b = -1) (fun x => asc_irr x.1.2) (fun h k => ordL_trans h k) hpw hstrict fun p => q3.mem_iff
  have heq2 : d' = L.toArray := by rw [← heq]
  have hw : Go.Proofs.sortWorldK cenc 3 w g 0 m d' os = Go.Sort.grow (Go.Sort.ahead w m) os := by
    unfold Go.Proofs.sortWorldK
    rw [heq2, Go.Sort.putRowK_self cenc 3 (Go.Sort.ahead w m) g 0 L.toArray hH]
  rw [hw]
  refine ⟨⟨rfl, rfl, rfl, ?_, fun k hk => ?_⟩⟩
  · show w.heap.size ≤ (w.heap ++ os).size
    rw [Array.size_append]; omega
  · show (w.heap ++ os)[k]? = _
    rw [Array.getElem?_append_left hk]
set_option maxRecDepth 16000 in
set_option maxHeartbeats 2000000 in
/-- No case stands alone. -/
theorem palone_any {N Mi Mo : Nat} {f g : List Int → List (List Int)} (hf : PlainTk N Mi Mo f) (hg : PlainTk N Mi Mo g) (bl : Nat) (v u : Value) (w : World) (hv : TkAt w v (tkOf N Mi Mo f)) (hu : TkAt w u (tkOf N Mi Mo g)) :
    Calls Tryz.prog 43 #[v, u, .pointer (some ⟨bl, 0, none⟩)] w fun e w' => e = .returned (.tuple #[]) ∧ Ext w w' := by
  have hXL : (vecs Mi N).length ≤ 4 := by rw [vecs_len]; exact hf.sm.fewI
  have HFD : Hid (∀ i, i < (vecs Mi N).length → ∀ U W, Ext w W → Row icells 1 W U ((vecs Mi N).getD i []) → Calls Tryz.prog 44 #[u, U] W fun e w' => ∃ q0 m0 k0 q1 m1 k1 q2 m2 k2,
      e = .returned (.tuple #[.agg #[.slice q0 m0 k0, .slice q1 m1 k1, .slice q2 m2 k2], .bool true]) ∧ Ext W w') := fun i hi U W hW hU => by
    refine (pfindT_any (tkOf N Mi Mo g) ((vecs Mi N).getD i []) i (by rw [hg.len_]; exact hi) (hg.fnd_ hi) u U W (hu.ext hW) hg.lens hU).mono ?_
    rintro e w' ⟨q0, k0, q1, k1, q2, k2, he, -, hE⟩
    exact ⟨q0, _, k0, q1, _, k1, q2, _, k2, he, hE⟩
  obtain ⟨p, c, hve, hcl, hl, hat⟩ := hv.all_ hf.lens
  obtain ⟨p', c', hue⟩ := hu.plain hg
  rw [hf.len_] at hve hcl hl hat
  have HAT : Hid (0 < (vecs Mi N).length → ∃ b o, p = some ⟨b, o, none⟩ ∧ b < w.heap.size ∧ ∀ i, i < (vecs Mi N).length → ∃ q0 k0 q1 m1 k1 q2 m2 k2,
      (∀ W, Ext w W → W.cell? ⟨b, o + i * 3, none⟩ = some (.slice q0 ((vecs Mi N).getD i []).length k0) ∧ W.cell? ⟨b, o + i * 3 + 1, none⟩ = some (.slice q1 m1 k1) ∧ W.cell? ⟨b, o + i * 3 + 2, none⟩ = some (.slice q2 m2 k2)) ∧
      Row icells 1 w (.slice q0 ((vecs Mi N).getD i []).length k0) ((vecs Mi N).getD i [])) := fun h0 => by
    obtain ⟨b, o, e, hb, hx⟩ := hat h0
    refine ⟨b, o, e, hb, fun i hi => ?_⟩
    obtain ⟨q0, k0, q1, k1, q2, k2, h1, h2⟩ := hx i hi
    have hr := h2.inp.1
    rw [tkOf_at hi] at hr
    have hc0 := h1.c0
    rw [show ((tkOf N Mi Mo f).cs.getD i default).inp = (vecs Mi N).getD i [] by rw [tkOf_at hi]] at hc0
    exact ⟨q0, k0, q1, _, k1, q2, _, k2, fun W hW => ⟨hc0 W hW, h1.c1 W hW, h1.c2 W hW⟩, hr⟩
  clear hat hv hu hl hcl hf hg
  generalize hX : (vecs Mi N).getD = X at *
  clear hX
  generalize hn : (vecs Mi N).length = n at *
  clear hn
  subst hve hue
  obtain ⟨w2, hw2⟩ : ∃ w2, (w.alloc (.cells #[.int .i64 (tkOf N Mi Mo f).n, .int .i64 (tkOf N Mi Mo f).ins, .int .i64 (tkOf N Mi Mo f).outs, .slice p n c] 33)).alloc (.cells #[.int .i64 N, .int .i64 Mi, .int .i64 Mo, .slice p' n c'] 33) = w2 := ⟨_, rfl⟩
  have HE : Hid (Ext w w2) := by show Ext _ _; rw [← hw2]; exact ((Ext.refl w).alloc _).alloc _
  have HT : Hid (TBox w2 w.heap.size (.int .i64 (tkOf N Mi Mo f).n) (.int .i64 (tkOf N Mi Mo f).ins) (.int .i64 (tkOf N Mi Mo f).outs) (.slice p n c)) := by
    show _ = _
    rw [← hw2, Below.heap_alloc _ _ _ (by simp)]
    exact heap_alloc_new w _
  have HU : Hid (TBox w2 (w.heap.size + 1) (.int .i64 N) (.int .i64 Mi) (.int .i64 Mo) (.slice p' n c')) := by
    show _ = _
    rw [← hw2]
    have := heap_alloc_new (w.alloc (.cells #[.int .i64 (tkOf N Mi Mo f).n, .int .i64 (tkOf N Mi Mo f).ins, .int .i64 (tkOf N Mi Mo f).outs, .slice p n c] 33)) (.cells #[.int .i64 N, .int .i64 Mi, .int .i64 Mo, .slice p' n c'] 33)
    rwa [World.size_alloc] at this
  have HW2 := hide hw2
  clear hw2
  generalize (tkOf N Mi Mo f).n = a1 at *
  generalize (tkOf N Mi Mo f).ins = a2 at *
  generalize (tkOf N Mi Mo f).outs = a3 at *
  obtain ⟨t0, t1, t2, t3⟩ := HT.out.cells
  have z0 := lt_of_heap HT.out
  go_enter Tryz.func43, Tryz.ntmps43
  go_wp2_with fail
  rw [HW2.out]
  go_wp2_with fail
  clear t0 t1 t2 t3 z0
  go_loopw [12] (fun x wr => ∃ i : Nat, i ≤ n ∧ x = .int .i64 i ∧ Hid (Ext w2 wr)) (fun x _ => n - (intOf x).toNat)
  case atStart => exact ⟨0, by omega, rfl, Ext.refl _⟩
  case round =>
    obtain ⟨i, hi, rfl, HE2⟩ := hrel
    by_cases hlt : i < n
    · obtain ⟨b, o, rfl, hb, hat⟩ := HAT.out (by omega)
      obtain ⟨q0, k0, q1, m1, k1, q2, m2, k2, hc, hrow⟩ := hat i hlt
      obtain ⟨x0, x1, x2⟩ := hc wr (HE.out.trans HE2.out)
      have hbz := Nat.lt_of_lt_of_le hb (HE.out.trans HE2.out).size
      have HROW := hide hrow
      have HFI := hide (HFD.out i hlt (.slice q0 (X i []).length k0))
      clear hat hc hrow
      generalize (X i []).length = m0 at *
      obtain ⟨t0, t1, t2, t3⟩ := (HU.out.ext HE2.out).cells
      have z1 := lt_of_heap (HU.out.ext HE2.out)
      go_wp2_with fail
      have HE1 : Hid (Ext wr (wr.alloc (.cells #[.slice q0 m0 k0, .slice q1 m1 k1, .slice q2 m2 k2] 60))) := (Ext.refl _).alloc _
      refine (HFI.out _ ((HE.out.trans HE2.out).trans HE1.out) (HROW.out.ext ((HE.out.trans HE2.out).trans HE1.out))).mono ?_
      rintro e W3 ⟨r0, n0, l0, r1, n1, l1, r2, n2, l2, rfl, hE3⟩
      have HE3 := hide ((HE2.out.trans HE1.out).trans hE3)
      clear hE3 HFI HE1 t0 t1 t2 t3 z1 x0 x1 x2 hbz
      go_wp2_with fail
      go_roundw
      case rel => exact ⟨i + 1, by omega, by go_num, HE3.out.alloc _⟩
      case measure => simp [intOf]; omega
    · obtain rfl : i = n := by omega
      go_wp2_with fail
      go_end0
      exact ⟨rfl, HE.out.trans HE2.out⟩
theorem joinL_row {N Mi Mo : Nat} {f g : List Int → List (List Int)} (hf : PlainTk N Mi Mo f) (hg : PlainTk N Mi Mo g) (x : List Int) : (joinL (f x) (g x)).length ≤ 100 ∧ ∀ y ∈ joinL (f x) (g x), y.length = N := by
  refine ⟨?_, fun y hy => ?_⟩
  · have h : ∀ l : List (List Int), (l.foldr insV []).length ≤ l.length := fun l => by
      induction l with
      | nil => exact Nat.le_refl _
      | cons v l ih =>
        have h2 : ∀ m : List (List Int), (insV v m).length ≤ m.length + 1 := fun m => by
          induction m with
          | nil => exact Nat.le_refl _
          | cons x m ihm =>
            unfold insV
            split
            · simp
            · split
              · simp
              · simp only [List.length_cons]; omega
        rw [List.foldr_cons, List.length_cons]
        have := h2 (l.foldr insV [])
        omega
    have := h (f x ++ g x)
    rw [List.length_append] at this
    have h1 := hf.len x
    have h2 := hg.len x
    show ((f x ++ g x).foldr insV []).length ≤ 100
    omega
  · rcases (mem_joinL _ _ _).1 hy with h | h
    · exact hf.row x y h
    · exact hg.row x y h
theorem heap_chgE {W W' : World} {b : Nat} {o : Obj} (h : W.heap[b]? = some o) (hE : Ext W W') : W'.heap[b]? = some o := (hE.b.block _ (lt_of_heap h)).trans h
def LBox (W : World) (b : Nat) (v : Value) : Prop := W.heap[b]? = some (.cells #[v] 31 (0, 0))
theorem LBox.chgE {W W' : World} {b : Nat} {v : Value} (h : LBox W b v) (hE : Ext W W') : LBox W' b v := heap_chgE h hE
set_option maxRecDepth 16000 in
set_option maxHeartbeats 2000000 in
theorem pjoin_any {N Mi Mo : Nat} {f g : List Int → List (List Int)} (hf : PlainTk N Mi Mo f) (hg : PlainTk N Mi Mo g) (v u : Value) (w : World) (hv : TkAt w v (tkOf N Mi Mo f)) (hu : TkAt w u (tkOf N Mi Mo g)) :
    Calls Tryz.prog 11 #[v, u] w (RetV2 (fun r w' => TkAt w' r (joinS N Mi Mo f g).1) (joinS N Mi Mo f g).2 w) := by
  have HP : Hid (∀ W, Ext w W → Calls Tryz.prog 34 #[v, u] W fun e w' => e = .returned (.int .i64 0) ∧ Ext W w') := fun W hW => by
    have := ppair_any (tkOf N Mi Mo f) (tkOf N Mi Mo g) v u W ((hv.ext hW).rep hf.lens) ((hu.ext hW).rep hg.lens)
    rwa [pair_zero hf hg] at this
  have HC := hide (fun W (hW : Ext w W) => pcomb_any hf hg joinL 40 enters_pjoin1 (fun x hx u t W h1 h2 => pjoin1_any (f x) (g x) u t W h1 h2 (List.length_pos_iff.2 (hf.ne x hx)) (by have := hf.len x; omega) (by have := hg.len x; omega)) (fun x _ => joinL_row hf hg x) v u W (hv.ext hW) (hu.ext hW))
  have ef2 : ∀ args w, (callFunc 43 args).run Tryz.prog w = .ok (.enter 43 args) w := fun _ _ => by kernel_rfl
  have HA1 := hide (fun bl W (hW : Ext w W) => palone_any hf hg bl v u W (hv.ext hW) (hu.ext hW))
  have HA2 := hide (fun bl W (hW : Ext w W) => palone_any hg hf bl u v W (hu.ext hW) (hv.ext hW))
  have hnl : ((vecs Mi N).map fun x => (⟨x, joinL (f x) (g x), []⟩ : Cs)).length = (vecs Mi N).length := List.length_map _
  have h4 : (vecs Mi N).length ≤ 4 := by rw [vecs_len]; exact hf.sm.fewI
  have h1 : 0 < (vecs Mi N).length := List.length_pos_iff.2 (vecs_ne hf.sm.i1)
  have hasc : ((vecs Mi N).map fun x => (⟨x, joinL (f x) (g x), []⟩ : Cs)).Pairwise fun a b => ordL a.inp b.inp = -1 := by
    rw [List.pairwise_map]; exact vecs_asc Mi N
  have HRES : Hid (joinS N Mi Mo f g = (⟨N, Mi, Mo, (vecs Mi N).map fun x => ⟨x, joinL (f x) (g x), []⟩⟩, 0)) := rfl
  obtain ⟨p, c, rfl⟩ := hv.plain hf
  obtain ⟨q, d, rfl⟩ := hu.plain hg
  generalize joinS N Mi Mo f g = res at HRES ⊢
  generalize emptyB N Mi (fun x => joinL (f x) (g x)) = eb at HC
  have HSRT : Hid (∀ gg k W base, CsOwn W base (.slice (some ⟨gg, 0, none⟩) (vecs Mi N).length k) ((vecs Mi N).map fun x => (⟨x, joinL (f x) (g x), []⟩ : Cs)) → Calls Tryz.prog 47 #[.slice (some ⟨gg, 0, none⟩) (vecs Mi N).length k, .func (.func 48) #[] #[]] W fun e w' => e = .returned (.tuple #[]) ∧ Ext W w') := fun gg k W base hcs =>
    srtC_any _ gg _ k W base hnl.symm hcs (by omega) hasc
  generalize ((vecs Mi N).map fun x => (⟨x, joinL (f x) (g x), []⟩ : Cs)) = cs at HC HRES hnl HSRT
  generalize (vecs Mi N).length = n at *
  clear hv hu hf hg hasc
  obtain ⟨w2, hw2⟩ : ∃ w2, ((w.alloc (.cells #[.int .i64 N, .int .i64 Mi, .int .i64 Mo, .slice p n c] 33)).alloc (.cells #[.int .i64 N, .int .i64 Mi, .int .i64 Mo, .slice q n d] 33)).alloc (.cells #[.int .i64 0, .int .i64 0, .int .i64 0, .slice none 0 0] 33) = w2 := ⟨_, rfl⟩
  have HE : Hid (Ext w w2) := by show Ext _ _; rw [← hw2]; exact (((Ext.refl w).alloc _).alloc _).alloc _
  have HT : Hid (TBox w2 w.heap.size (.int .i64 N) (.int .i64 Mi) (.int .i64 Mo) (.slice p n c)) := by
    show _ = _
    rw [← hw2, Below.heap_alloc _ _ _ (by simp; omega), Below.heap_alloc _ _ _ (by simp)]
    exact heap_alloc_new w _
  have HU : Hid (TBox w2 (w.heap.size + 1) (.int .i64 N) (.int .i64 Mi) (.int .i64 Mo) (.slice q n d)) := by show _ = _; rw [← hw2]; exact at3_1 _ _ _ _ _ _ _
  have HB : Hid (TBox w2 (w.heap.size + 1 + 1) (.int .i64 0) (.int .i64 0) (.int .i64 0) (.slice none 0 0)) := by show _ = _; rw [← hw2]; exact at3_2 _ _ _ _ _ _ _
  have HW2 := hide hw2
  clear hw2
  obtain ⟨t0, t1, t2, t3⟩ := HT.out.cells
  obtain ⟨u0, u1, u2, u3⟩ := HU.out.cells
  have z0 := lt_of_heap HT.out
  have z1 := lt_of_heap HU.out
  have HNL := hide hnl
  clear hnl
  go_enter Tryz.func11, Tryz.ntmps11
  go_wp2_with fail
  rw [HW2.out]
  go_wp2_with fail
  refine (HP.out _ HE.out).mono ?_
  rintro e W1 ⟨rfl, hE1⟩
  have HE1 := hide hE1
  clear t0 t1 t2 t3 u0 u1 u2 u3 z0 z1 hE1
  obtain ⟨t0, t1, t2, t3⟩ := (HT.out.ext HE1.out).cells
  obtain ⟨u0, u1, u2, u3⟩ := (HU.out.ext HE1.out).cells
  have z0 := lt_of_heap (HT.out.ext HE1.out)
  have z1 := lt_of_heap (HU.out.ext HE1.out)
  go_wp2_with fail
  refine (HC.out _ (HE.out.trans HE1.out)).mono ?_
  rintro e W2 ⟨r, rfl, hcs, hE2⟩
  have HE2 := hide (HE1.out.trans hE2)
  have HCS := hide (hcs.mono (show w.heap.size + 1 + 1 + 1 ≤ W1.heap.size from lt_of_heap (HB.out.ext HE1.out)))
  obtain ⟨g3, k3, rfl⟩ : ∃ g k, r = .slice (some ⟨g, 0, none⟩) n k := by
    obtain ⟨vs, ho, hl, -⟩ := hcs
    rcases ho.form with ⟨e1, e2⟩ | ⟨g, k, e1, -⟩
    · exfalso
      have := HNL.out
      rw [← hl, e2] at this
      have : 0 = n := this
      omega
    · exact ⟨g, k, by rw [e1, hl, HNL.out]⟩
  clear t0 t1 t2 t3 u0 u1 u2 u3 z0 z1 hE2 hcs
  obtain ⟨W3, hW3⟩ : ∃ W3, W2.alloc (.cells #[.slice (some ⟨g3, 0, none⟩) n k3] 31) = W3 := ⟨_, rfl⟩
  have HL3 : Hid (LBox W3 W2.heap.size (.slice (some ⟨g3, 0, none⟩) n k3)) := by show _ = _; rw [← hW3]; exact heap_alloc_new W2 _
  have HE23 : Hid (Ext W2 W3) := by show Ext _ _; rw [← hW3]; exact (Ext.refl _).alloc _
  have HE3 := hide (HE2.out.trans HE23.out)
  have HCS3 := hide (HCS.out.ext HE23.out)
  have HW3 := hide hW3
  clear hW3
  obtain ⟨t0, t1, t2, t3⟩ := (HT.out.ext HE2.out).cells
  obtain ⟨u0, u1, u2, u3⟩ := (HU.out.ext HE2.out).cells
  have z0 := lt_of_heap (HT.out.ext HE2.out)
  have z1 := lt_of_heap (HU.out.ext HE2.out)
  go_wp2_with fail
  rw [HW3.out]
  refine (HA1.out _ _ (HE.out.trans HE3.out)).mono ?_
  rintro e W4 ⟨rfl, hE4⟩
  have HE4 := hide (HE3.out.trans hE4)
  have HL4 := hide (HL3.out.chgE hE4)
  have HCS4 := hide (HCS3.out.ext hE4)
  clear t0 t1 t2 t3 u0 u1 u2 u3 z0 z1 hE4
  obtain ⟨t0, t1, t2, t3⟩ := (HT.out.ext HE4.out).cells
  obtain ⟨u0, u1, u2, u3⟩ := (HU.out.ext HE4.out).cells
  have z0 := lt_of_heap (HT.out.ext HE4.out)
  have z1 := lt_of_heap (HU.out.ext HE4.out)
  go_wp2_with fail
  refine (HA2.out _ _ (HE.out.trans HE4.out)).mono ?_
  rintro e W5 ⟨rfl, hE5⟩
  have HE5 := hide (HE4.out.trans hE5)
  have HL5 := hide (HL4.out.chgE hE5)
  have HCS5 := hide (HCS4.out.ext hE5)
  clear t0 t1 t2 t3 u0 u1 u2 u3 z0 z1 hE5
  have l0 : W5.cell? ⟨W2.heap.size, 0, none⟩ = some (.slice (some ⟨g3, 0, none⟩) n k3) := decl_cells HL5.out 0
  have zl := lt_of_heap HL5.out
  have hd : decide ((1024 : Int) < (n : Int)) = false := by rw [decide_eq_false_iff_not]; omega
  have hd2 : decide (1024 < n) = false := by rw [decide_eq_false_iff_not]; omega
  go_wp2_with fail
  refine (HSRT.out g3 k3 W5 _ HCS5.out).mono ?_
  rintro e W6 ⟨rfl, hE6⟩
  have HE6 := hide (HE5.out.trans hE6)
  have HL6 := hide (HL5.out.chgE hE6)
  have HCS6 := hide (HCS5.out.ext hE6)
  clear l0 zl hE6 hd hd2
  have l0 : W6.cell? ⟨W2.heap.size, 0, none⟩ = some (.slice (some ⟨g3, 0, none⟩) n k3) := decl_cells HL6.out 0
  have zl := lt_of_heap HL6.out
  obtain ⟨t0, t1, t2, t3⟩ := (HT.out.ext HE6.out).cells
  obtain ⟨u0, u1, u2, u3⟩ := (HU.out.ext HE6.out).cells
  have HB6 := hide (HB.out.ext HE6.out)
  obtain ⟨b0, b1, b2, b3⟩ := HB6.out.cells
  obtain ⟨f0, f1, f2, f3⟩ := HB6.out.frozen
  have z0 := lt_of_heap (HT.out.ext HE6.out)
  have z1 := lt_of_heap (HU.out.ext HE6.out)
  have z2 := lt_of_heap HB6.out
  have hfin := fun a b c d => ext_store4 (HE.out.trans HE6.out) (show w.heap.size ≤ w.heap.size + 1 + 1 by omega) a b c d
  have HFIN := hide hfin
  clear hfin
  go_wp2_with fail
  refine leave_task rfl rfl rfl rfl (HB6.out.store _ _ _ _) ?_
  rw [HRES.out]
  refine ⟨_, rfl, ?_, HFIN.out _ _ _ _⟩
  have ht := (HCS6.out.store4 HB6.out (by omega) (.int .i64 N) (.int .i64 Mi) (.int .i64 Mo) (.slice (some ⟨g3, 0, none⟩) n k3)).task (by have := HNL.out; omega) N Mi Mo
  simpa using ht
end Go.Proofs.YthkididgbaamcaaGreatDoor
