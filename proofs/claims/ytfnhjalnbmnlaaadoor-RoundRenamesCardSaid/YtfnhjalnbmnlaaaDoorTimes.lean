/-
  The composition of two permutations: permutation.Compose and the reference's Times.
  Conditions: none.
-/
import Derived.Test.YtfnhjalnbmnlaaaDoorPermP
import Derived.Test.YtfnhjalnbmnlaaaDoorRdLaw
import Derived.Deep.CutRange
namespace Go.Proofs.YtfnhjalnbmnlaaaDoor
open Go.RowKit
attribute [local go_sem] Oper.semAt_some

/-- The first i places of the composition, zeros behind. -/
def cmpL (b a : List Int) : Nat → List Int
  | 0 => List.replicate a.length 0
  | i + 1 => (cmpL b a i).set i (b.getD (a.getD i 0).toNat 0)
theorem cmpL_len (b a : List Int) : ∀ i, (cmpL b a i).length = a.length
  | 0 => List.length_replicate
  | i + 1 => by show (List.set _ _ _).length = _; rw [List.length_set]; exact cmpL_len b a i
theorem cmpL_get (b a : List Int) : ∀ i j, j < i → j < a.length → (cmpL b a i)[j]? = some (b.getD (a.getD j 0).toNat 0)
  | i + 1, j, h, hj => by
    show (List.set _ _ _)[j]? = _
    by_cases e : i = j
    · subst e
      rw [List.getElem?_set_self (by rw [cmpL_len]; exact hj)]
    · rw [List.getElem?_set_ne e]
      exact cmpL_get b a i j (by omega) hj
theorem cmpL_all (b a : List Int) : cmpL b a a.length = tmL b a := by
  refine List.ext_getElem? fun j => ?_
  by_cases hj : j < a.length
  · rw [cmpL_get b a _ j hj hj]
    unfold tmL
    have e : a.getD j 0 = a[j] := by rw [List.getD_eq_getElem?_getD, List.getElem?_eq_getElem hj]; rfl
    rw [List.getElem?_map, List.getElem?_eq_getElem hj, e]; rfl
  · rw [List.getElem?_eq_none (by rw [cmpL_len]; omega), List.getElem?_eq_none (by rw [tmL_len]; omega)]
set_option maxRecDepth 16000 in
set_option maxHeartbeats 1000000 in
theorem compose_ok15 (b a : List Int) (ha : PermOk a) (hl : b.length = a.length) (u v : Value) (w : World) (hu : Row icells 1 w u b) (hv : Row icells 1 w v a) :
    Calls Tryd.prog 62 #[u, v] w fun e w' => ∃ x, e = .returned x ∧ Row icells 1 w' x (tmL b a) ∧ Ext w w' := by
  obtain ⟨p, c, rfl, hc, hlen, hat⟩ := hu.int_all
  obtain ⟨q, d, rfl, hd, hlen2, hat2⟩ := hv.int_all
  have HAT := hide hat
  have HAT2 := hide hat2
  have HI := hide (fun i => show cmpL b a (i + 1) = (cmpL b a i).set i (b.getD (a.getD i 0).toNat 0) from rfl)
  have HI0 := hide (show cmpL b a 0 = List.replicate a.length 0 from rfl)
  have HIL := hide (cmpL_len b a)
  have HALL := hide (cmpL_all b a)
  have HNAT := hide (fun i hi => ha.nat (i := i) hi)
  have h5 := ha.n5
  have h1 := ha.n1
  have hmk := fun W => make_ints (P := Tryd.prog) 27 3 Tryd.underlying27 int_info a.length h5 W
  generalize cmpL b a = iv at HI HI0 HIL HALL ⊢
  generalize tmL b a = res at HALL ⊢
  clear hu hv hat hat2 ha
  have HL := hide hl
  have hbl : (b.length : Int) = a.length := by omega
  clear hl
  go_enter Tryd.func62, Tryd.ntmps62
  go_wp2_with fail
  have HN : Hid (Nums (w.alloc (.cells (vals (List.replicate a.length 0)) 3)) w.heap.size (iv 0)) := by
    show Nums _ _ _; rw [HI0.out]; exact heap_alloc_new w _
  have HE2 : Hid (Ext w (w.alloc (.cells (vals (List.replicate a.length 0)) 3))) := (Ext.refl w).alloc _
  have HZ : Hid (w.heap.size ≤ w.heap.size) := Nat.le_refl _
  generalize w.alloc (.cells (vals (List.replicate a.length 0)) 3) = W at HN HE2 ⊢
  obtain ⟨bb, hbb_⟩ : ∃ bb, bb = w.heap.size := ⟨_, rfl⟩
  have HBB : Hid (w.heap.size ≤ bb) := by show _ ≤ _; omega
  rw [← hbb_] at HN ⊢
  clear hmk hbb_ HZ
  go_loopw [13, 6, 7] (fun x _ _ V => ∃ i : Nat, i ≤ a.length ∧ x = .int .i64 i ∧ Hid (Ext w V) ∧ Hid (Nums V bb (iv i))) (fun x _ _ _ => a.length - (intOf x).toNat)
  case atStart => exact ⟨0, by omega, rfl, HE2, HN⟩
  case round =>
    clear HN HE2
    obtain ⟨i, hi, rfl, HE, HN⟩ := hrel
    by_cases hlt : i < a.length
    · obtain ⟨b2, o2, rfl, hb2, hat2⟩ := HAT2.out (by omega)
      have hx := hat2 i hlt _ HE.out
      obtain ⟨hxn, hxl⟩ := HNAT.out i hlt
      have HI2 := hide (HI.out i)
      generalize (a.getD i 0).toNat = k at hxn hxl HI2
      rw [hxn] at hx
      have hkb : k < b.length := by have := HL.out; omega
      obtain ⟨b1, o1, rfl, hb1, hat1⟩ := HAT.out (by omega)
      have hy := hat1 k hkb _ HE.out
      generalize b.getD k 0 = y at hy HI2
      have hbz : b2 < wr.heap.size := Nat.lt_of_lt_of_le hb2 HE.out.size
      have hbz1 : b1 < wr.heap.size := Nat.lt_of_lt_of_le hb1 HE.out.size
      have hcv := HN.out.at_ (j := i) (by rw [HIL.out]; exact hlt)
      have hfz : wr.frozen? ⟨bb, i, none⟩ = false := frozen_of HN.out
      have hbb := lt_of_heap HN.out
      have HSET := hide (HN.out.set i y)
      rw [← HI2.out] at HSET
      have HE2 := hide (HE.out.setCell (p := ⟨bb, i, none⟩) HBB.out (.int .i64 y))
      clear hat2 hat1 hxn
      go_wp2_with fail
      go_roundw
      case rel => exact ⟨i + 1, by omega, by go_num, HE2, HSET⟩
      case measure => simp [intOf]; omega
    · obtain rfl : i = a.length := by omega
      have hrow := HN.out.row (by rw [HIL.out]; omega)
      rw [HIL.out, HALL.out] at hrow
      have HROW := hide hrow
      clear hrow
      go_wp2_with fail
      go_ret
      exact ⟨_, rfl, HROW.out, HE.out⟩

set_option maxRecDepth 16000 in
set_option maxHeartbeats 1000000 in
theorem pcompose_ok (b a : List Int) (ha : PermOk a) (hb0 : permE b = 0) (ha0 : permE a = 0) (hl : b.length = a.length) (u v : Value) (w : World) (hu : Row icells 1 w u b) (hv : Row icells 1 w v a) :
    Calls Tryd.prog 32 #[u, v] w fun e w' => ∃ x, e = .returned (.tuple #[x, .int .i64 0]) ∧ Row icells 1 w' x (tmL b a) ∧ Ext w w' := by
  have HC1 := hide (fun W (hE : Ext w W) => pmcheck_any b u W (hu.ext hE))
  have HC2 := hide (fun W (hE : Ext w W) => pmcheck_any a v W (hv.ext hE))
  rw [hb0] at HC1
  rw [ha0] at HC2
  have HC3 := hide (fun W (hE : Ext w W) => compose_ok15 b a ha hl u v W (hu.ext hE) (hv.ext hE))
  obtain ⟨p, c, rfl, hc, hlen, -⟩ := hu.int_all
  obtain ⟨q, d, rfl, hd, hlen2, -⟩ := hv.int_all
  have hbl : (b.length : Int) = a.length := by omega
  clear hu hv ha hb0 ha0 hl
  generalize tmL b a = res at HC3 ⊢
  go_enter Tryd.func32, Tryd.ntmps32
  go_wp2_with fail
  refine (HC1.out _ (Ext.refl _)).mono ?_
  rintro e w1 ⟨rfl, hE⟩
  have HE := hide hE
  clear hE
  go_wp2_with fail
  refine (HC2.out _ HE.out).mono ?_
  rintro e w2 ⟨rfl, hE⟩
  have HE := hide (HE.out.trans hE)
  clear hE
  go_wp2_with fail
  refine (HC3.out _ HE.out).mono ?_
  rintro e w3 ⟨x, rfl, hx, hE⟩
  have HX := hide hx
  have HE := hide (HE.out.trans hE)
  clear hE hx
  go_wp2_with fail
  go_ret2
  exact ⟨x, rfl, HX.out, HE.out⟩
set_option maxRecDepth 16000 in
set_option maxHeartbeats 1000000 in
theorem rtimes_ok (b a : List Int) (ha : PermOk a) (hl : b.length = a.length) (u v : Value) (w : World) (hu : Row icells 1 w u b) (hv : Row icells 1 w v a) :
    Calls Tryd.prog 33 #[u, v] w fun e w' => ∃ x, e = .returned x ∧ Row icells 1 w' x (tmL b a) ∧ Ext w w' := by
  obtain ⟨p, c, rfl, hc, hlen, hat⟩ := hu.int_all
  obtain ⟨q, d, rfl, hd, hlen2, hat2⟩ := hv.int_all
  have HAT := hide hat
  have HAT2 := hide hat2
  have HNAT := hide (fun i hi => ha.nat (i := i) hi)
  have h5 := ha.n5
  have HTA := hide (fun i (hi : i < a.length) => (show (tmL b a).take (i + 1) = (tmL b a).take i ++ [b.getD (a.getD i 0).toNat 0] by
    rw [List.take_succ_eq_append_getElem (by rw [tmL_len]; exact hi)]
    have h1 := cmpL_get b a a.length i hi hi
    rw [cmpL_all, List.getElem?_eq_getElem (by rw [tmL_len]; exact hi)] at h1
    rw [Option.some.inj h1]))
  have HTL := hide (tmL_len b a)
  generalize tmL b a = res at HTA HTL ⊢
  clear hu hv hat hat2 ha
  have HL := hide hl
  clear hl
  go_enter Tryd.func33, Tryd.ntmps33
  go_wp2_with fail
  have HE : Hid (Ext w w) := Ext.refl w
  have HO : Hid (Own icells 1 w w.heap.size 3 (.slice none 0 0) (res.take 0)) := by show Own _ _ _ _ _ _ _; rw [List.take_zero]; exact Own.nil _ _ _ (fun _ => rfl)
  go_loopw [6, 5] (fun x u V => ∃ i : Nat, i ≤ a.length ∧ x = .int .i64 i ∧ Hid (Ext w V) ∧ Hid (Own icells 1 V w.heap.size 3 u (res.take i))) (fun x _ _ => a.length - (intOf x).toNat)
  case atStart => exact ⟨0, by omega, rfl, HE, HO⟩
  case round =>
    clear HE HO
    obtain ⟨i, hi, rfl, HE, HO⟩ := hrel
    by_cases hlt : i < a.length
    · obtain ⟨b2, o2, rfl, hb2, hat2⟩ := HAT2.out (by omega)
      have hx := hat2 i hlt _ HE.out
      obtain ⟨hxn, hxl⟩ := HNAT.out i hlt
      have HSS := hide (HTA.out i hlt)
      have HTI : Hid ((res.take i).length = i) := by show _ = _; rw [List.length_take, HTL.out]; omega
      generalize (a.getD i 0).toNat = k at hxn hxl HSS
      rw [hxn] at hx
      have hkb : k < b.length := by have := HL.out; omega
      obtain ⟨b1, o1, rfl, hb1, hat1⟩ := HAT.out (by omega)
      have hy := hat1 k hkb _ HE.out
      generalize b.getD k 0 = y at hy HSS
      have hbz : b2 < wr.heap.size := Nat.lt_of_lt_of_le hb2 HE.out.size
      have hbz1 : b1 < wr.heap.size := Nat.lt_of_lt_of_le hb1 HE.out.size
      obtain ⟨su, sc, rfl⟩ := HO.out.sl
      rw [HTI.out]
      have HO : Hid (Own icells 1 wr w.heap.size 3 (.slice su i sc) (res.take i)) := by have := HO.out; rwa [HTI.out] at this
      generalize res.take i = ti at HSS HTI HO
      clear hat2 hat1 hxn
      go_wp2_with (at_builtin; refine wpList_append1 rfl (.tmp 13) (.tmp 21) 27 rfl w.heap.size 3 (.int .i64 0) 1 8 Tryd.underlying27 int_info rfl (by decide) _ ti y wr.heap.size rfl (HO.out.alloc _) rfl (cell_new1 _ _ _) (int_one _) (by have := HTI.out; omega) (by decide) (by simp only [World.size_alloc]; have := HE.out.size; omega) ?_; intro v' W6 hown' hg6 hf6; obtain ⟨g7, c7, rfl, -⟩ := hf6)
      have hge := HO.out.block_ge
      have HE6 : Hid (Ext w W6) := (HE.out.alloc _).grown hg6 (fun k hk => by have := hge k hk; omega)
      rw [← HSS.out] at hown'
      have HFIN := hide hown'
      clear hge hown' hg6 HSS HTI
      go_wp2_with fail
      go_roundw
      case rel => exact ⟨i + 1, by omega, by go_num, HE6, HFIN⟩
      case measure => simp [intOf]; omega
    · obtain rfl : i = a.length := by omega
      have HRW := hide (HO.out.row (by rw [List.length_take]; omega))
      rw [show res.take a.length = res from List.take_of_length_le (by rw [HTL.out]; exact Nat.le_refl _)] at HRW
      go_wp2_with fail
      go_ret
      exact ⟨_, rfl, HRW.out, HE.out⟩
end Go.Proofs.YtfnhjalnbmnlaaaDoor
