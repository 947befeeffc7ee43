/-
  Graphs read from texts (graph.Parse).
  Conditions: the table of math/bits and a number of internal/bytealg lie in the heap (Tz, Ml).
-/
import Derived.Test.YtfnhjalnbmnlaaaDoorWritten
import Derived.Test.YtfnhjalnbmnlaaaDoorGRefR
import Derived.Deep.CutRange
import Derived.Laws.IdiomStrings
namespace Go.Proofs.YtfnhjalnbmnlaaaDoor
open Go.RowKit
attribute [local go_sem] Oper.semAt_some

theorem str_bytes (x : ByteArray) (w : World) : ∃ (C : Array Value) (fr : Nat × Nat) (cap : Nat), (convert 9 112 (.string x)).run Tryd.prog w = .ok (.slice (some ⟨w.heap.size, 0, none⟩) x.data.toList.length cap) (w.drew.alloc (.cells C 5 fr)) ∧
    ∀ j (h : j < x.data.toList.length), C[j]? = some (.int .u8 (x.data.toList[j].toNat : Int)) := by
  refine ⟨_, _, _, run_bytes_of_string w 9 112 5 x Tryd.underlying9 Tryd.underlying112 Tryd.underlying5, fun j h => ?_⟩
  rw [bytesRow_at x _ j (by simpa using h)]
  simp
/-- The number of internal/bytealg lies in its variable. -/
def Ml (W : World) : Prop := 0 < W.heap.size ∧ ∃ m : Int, W.cell? ⟨0, 0, none⟩ = some (.int .i64 m)
theorem Ml.ext {w W : World} (h : Ml w) (hE : Ext w W) : Ml W := ⟨Nat.lt_of_lt_of_le h.1 hE.size, by obtain ⟨m, hm⟩ := h.2; exact ⟨m, (hE.cell (p := ⟨0, 0, none⟩) h.1).trans hm⟩⟩
def splitS (l : List UInt8) : List (List UInt8) := Lib.split l [32]
def okC (c : UInt8) : Bool := decide (48 ≤ c.toNat) && decide (c.toNat < 53)
def rowB (l : List UInt8) : Nat := l.foldl (fun a c => a ||| 2 ^ (c.toNat - 48)) 0
def candG (P : List (List UInt8)) : Gr := mkG P.length (fun p => (rowB (P.getD p []) : Nat)) P.length
def parseS (l : List UInt8) : Gr × Int :=
  if 5 < (splitS l).length then (gz0, 4) else if (splitS l).all (fun x => x.all okC) = false then (gz0, 4)
  else if gchk (candG (splitS l)) ≠ 0 then (gz0, 4) else if wrt (candG (splitS l)) ≠ l then (gz0, 4) else (candG (splitS l), 0)
theorem parseS_long {l : List UInt8} (h : 5 < (splitS l).length) : parseS l = (gz0, 4) := if_pos h
theorem parseS_bad {l : List UInt8} (h : ¬ 5 < (splitS l).length) (h2 : (splitS l).all (fun x => x.all okC) = false) : parseS l = (gz0, 4) := by unfold parseS; rw [if_neg h, if_pos h2]
theorem parseS_chk {l : List UInt8} (h : ¬ 5 < (splitS l).length) (h2 : (splitS l).all (fun x => x.all okC) = true) (h3 : gchk (candG (splitS l)) ≠ 0) : parseS l = (gz0, 4) := by unfold parseS; rw [if_neg h, if_neg (by rw [h2]; decide), if_pos h3]
theorem parseS_txt {l : List UInt8} (h : ¬ 5 < (splitS l).length) (h2 : (splitS l).all (fun x => x.all okC) = true) (h3 : gchk (candG (splitS l)) = 0) (h4 : wrt (candG (splitS l)) ≠ l) : parseS l = (gz0, 4) := by unfold parseS; rw [if_neg h, if_neg (by rw [h2]; decide), if_neg (by simp [h3]), if_pos h4]
theorem parseS_ok {l : List UInt8} (h : ¬ 5 < (splitS l).length) (h2 : (splitS l).all (fun x => x.all okC) = true) (h3 : gchk (candG (splitS l)) = 0) (h4 : wrt (candG (splitS l)) = l) : parseS l = (candG (splitS l), 0) := by unfold parseS; rw [if_neg h, if_neg (by rw [h2]; decide), if_neg (by simp [h3]), if_neg (by simp [h4])]
theorem rowB_snoc (l : List UInt8) (c : UInt8) : rowB (l ++ [c]) = rowB l ||| 2 ^ (c.toNat - 48) := by unfold rowB; rw [List.foldl_append]; rfl
theorem rowB_lt : ∀ (l : List UInt8), (∀ c ∈ l, okC c = true) → rowB l < 2 ^ 5 := by
  intro l
  unfold rowB
  have key : ∀ (l : List UInt8) (a : Nat), a < 2 ^ 5 → (∀ c ∈ l, okC c = true) → l.foldl (fun a c => a ||| 2 ^ (c.toNat - 48)) a < 2 ^ 5 := by
    intro l
    induction l with
    | nil => intro a ha _; exact ha
    | cons c l ih =>
      intro a ha h
      refine ih _ (Nat.or_lt_two_pow ha (Nat.pow_lt_pow_right (by decide) ?_)) fun d hd => h d (by simp [hd])
      have := h c (by simp)
      unfold okC at this
      simp at this
      omega
  exact key l 0 (by decide)
theorem splitK_len (sep : List UInt8) (save : Nat) : ∀ (k : Nat) (s x : List UInt8), x ∈ Lib.splitK sep save k s → x.length ≤ s.length
  | 0, s, x, h => by simp only [Lib.splitK, List.mem_singleton] at h; rw [h]; exact Nat.le_refl _
  | k + 1, s, x, h => by
    unfold Lib.splitK at h
    split at h
    · simp only [List.mem_singleton] at h; rw [h]; exact Nat.le_refl _
    · rcases List.mem_cons.1 h with h | h
      · rw [h]; exact List.length_take_le' _ _
      · have := splitK_len sep save k _ x h
        rw [List.length_drop] at this
        omega
theorem split_parts (s : ByteArray) : (Lib.splitB ⟨#[32]⟩ 0 (Lib.countB s ⟨#[32]⟩) s).map (·.data.toList) = splitS s.data.toList := by
  rw [Lib.splitB_data]; rfl
theorem split_len (s : ByteArray) : (splitS s.data.toList).length = Lib.countB s ⟨#[32]⟩ + 1 := by
  rw [← split_parts, List.length_map, Lib.splitB_all _ (by decide) _ _ _ rfl]
set_option maxRecDepth 16000 in
set_option maxHeartbeats 1000000 in
theorem parse_any (s : ByteArray) (hs : s.size ≤ 1000000) (w : World) (hT : Tz w) (hM : Ml w) : Calls Tryd.prog 92 #[.string s] w (RetG (parseS s.data.toList) w) := by
  obtain ⟨hM0, m, hm⟩ := hM
  have HSP := hide (fun W hc => Sstrings_Split s ⟨#[32]⟩ m W (by omega) hc (by decide))
  have HL := hide (split_len s)
  have hparts := split_parts s
  generalize Lib.splitB ⟨#[32]⟩ 0 (Lib.countB s ⟨#[32]⟩) s = xs at HSP hparts
  have HXL : Hid (xs.length = Lib.countB s ⟨#[32]⟩ + 1) := by show _ = _; rw [← HL.out, ← hparts, List.length_map]
  generalize Lib.countB s ⟨#[32]⟩ + 1 = K at HSP HL HXL
  have HPT := hide hparts
  have HR1 := hide (parseS_long (l := s.data.toList))
  have HR2 := hide (parseS_bad (l := s.data.toList))
  have HR3 := hide (parseS_chk (l := s.data.toList))
  have HR4 := hide (parseS_txt (l := s.data.toList))
  have HR5 := hide (parseS_ok (l := s.data.toList))
  generalize parseS s.data.toList = res at HR1 HR2 HR3 HR4 HR5 ⊢
  rw [HL.out] at HR1 HR2 HR3 HR4 HR5
  clear hparts
  go_enter Tryd.func92, Tryd.ntmps92
  go_wp2_with fail
  have HG0 : Hid (GrBox (w.alloc gobj0) w.heap.size gz0) := gr_new w gz0
  have HE : Hid (Ext w (w.alloc gobj0)) := (Ext.refl w).alloc _
  generalize w.alloc gobj0 = W at HG0 HE ⊢
  refine (HSP.out W ((HE.out.cell (p := ⟨0, 0, none⟩) hM0).trans hm)).mono ?_
  rintro e w1 ⟨rfl, hw1⟩
  have hE1 : Ext W w1 := by rw [hw1]; exact (Ext.refl W).alloc _
  have HX : Hid (w1.heap[W.heap.size]? = some (.cells (xs.map Value.string).toArray 9 (0, 0))) := by show _ = _; rw [hw1]; exact heap_alloc_new W _
  have HG0 := hide (HG0.out.ext hE1)
  have HE := hide (HE.out.trans hE1)
  have HXB := hide (lt_of_heap HX.out)
  clear hw1 hE1
  generalize W.heap.size = bx at HX HXB ⊢
  by_cases h5 : 5 < K
  · have hd : decide ((5 : Int) < (K : Int)) = true := by simp; omega
    have h5' : (5 : Int) < K := by omega
    have HR := hide (HR1.out h5)
    obtain ⟨d0, d1, d2, d3, d4, d5, dz⟩ := HG0.out.cells
    obtain ⟨f0, f1, f2, f3, f4, f5⟩ := HG0.out.frozen
    clear h5
    go_wp2_with fail
    exact bodyPost_ret (v := .tuple #[gz0.v, .int .i64 4]) (results_gr2 rfl _ rfl rfl (HG0.out.store gz0)) rfl ⟨by rw [HR.out], HE.out.gstore (by omega) gz0⟩
  have h5' : ¬ (5 : Int) < K := by omega
  go_wp2_with fail
  have HZ := hide (lt_of_heap HG0.out)
  have HGB : Hid (GrBox (w1.alloc (gobj ⟨(K : Int), 0, 0, 0, 0, 0⟩)) w1.heap.size ⟨(K : Int), 0, 0, 0, 0, 0⟩) := gr_new w1 _
  have HG0 := hide (HG0.out.alloc (gobj ⟨(K : Int), 0, 0, 0, 0, 0⟩))
  have HX := hide ((Below.heap_alloc w1 (gobj ⟨(K : Int), 0, 0, 0, 0, 0⟩) _ HXB.out).trans HX.out)
  have HE := hide (HE.out.alloc (gobj ⟨(K : Int), 0, 0, 0, 0, 0⟩))
  generalize w1.alloc (gobj ⟨(K : Int), 0, 0, 0, 0, 0⟩) = W2 at HGB HG0 HX HE ⊢
  have HXB2 : Hid (bx < w1.heap.size) := HXB
  generalize w1.heap.size = gb at HGB HZ HXB2 ⊢
  have hK5 : K ≤ 5 := by omega
  have HMK := hide (fun p hp => mkG_succ K (fun p => (rowB ((splitS s.data.toList).getD p []) : Nat)) p hp)
  have HMZ := hide (mkG_zero K (fun p => (rowB ((splitS s.data.toList).getD p []) : Nat)))
  have HM0 := hide (fun p hp => mkG_set0 K (fun p => (rowB ((splitS s.data.toList).getD p []) : Nat)) p hp)
  have HCD : Hid (candG (splitS s.data.toList) = mkG K (fun p => (rowB ((splitS s.data.toList).getD p []) : Nat)) K) := by show _ = _; unfold candG; rw [HL.out]
  generalize mkG K (fun p => (rowB ((splitS s.data.toList).getD p []) : Nat)) = mk at HMK HMZ HM0 HCD
  rw [← HMZ.out] at HGB
  go_loopw [21] (fun x V => ∃ p : Nat, p ≤ K ∧ x = .int .i64 p ∧ Hid (Ext w V) ∧ Hid (∃ g, GrBox V w.heap.size g) ∧ Hid (V.heap[bx]? = some (.cells (xs.map Value.string).toArray 9 (0, 0))) ∧ Hid (GrBox V gb (mk p)) ∧
    Hid (∀ i, i < p → ((splitS s.data.toList).getD i []).all okC = true)) (fun x _ => K - (intOf x).toNat)
  case atStart => exact ⟨0, by omega, rfl, HE, ⟨_, HG0.out⟩, HX, HGB, fun i hi => by omega⟩
  case round =>
    clear HE HG0 HX HGB
    obtain ⟨p, hp, rfl, HE, HG0, HX, HGB, HJ⟩ := hrel
    by_cases hlt : p < K
    · have hpI : (p : Int) < 5 := by omega
      obtain ⟨x, hx, hxl⟩ : ∃ x : ByteArray, xs[p]? = some x ∧ (splitS s.data.toList).getD p [] = x.data.toList := by
        have h1 : p < xs.length := by rw [HXL.out]; exact hlt
        refine ⟨xs[p], List.getElem?_eq_getElem h1, ?_⟩
        rw [← HPT.out, List.getD_eq_getElem?_getD, List.getElem?_map, List.getElem?_eq_getElem h1]; rfl
      have hcx : wr.cell? ⟨bx, p, none⟩ = some (.string x) := by
        rw [cell_of_row _ _ _ _ _ _ HX.out, List.getElem?_toArray, List.getElem?_map, hx]; rfl
      have hbx := lt_of_heap HX.out
      have HXE := hide hx
      have HXL2 := hide hxl
      clear hx hxl
      obtain ⟨C, fr, cap, hcv, hC⟩ := str_bytes x wr
      have HC := hide hC
      have HLN : Hid (x.data.toList.length ≤ 1000000) := by
        have h1 : x.data.toList ∈ splitS s.data.toList := by
          rw [← HXL2.out, List.getD_eq_getElem?_getD, List.getElem?_eq_getElem (by rw [HL.out]; exact hlt)]
          exact List.getElem_mem _
        have h2 := splitK_len _ _ _ _ _ h1
        have h3 : s.data.toList.length = s.size := Array.length_toList
        show _ ≤ _
        omega
      clear hC
      generalize hL : x.data.toList = L at hcv HC HXL2 HLN
      clear hL
      go_wp2_with fail
      have HE := hide (HE.out.trans (((Ext.refl wr).alloc (.cells C 5 fr)).drew))
      have hEE : Ext wr ((wr.alloc (.cells C 5 fr)).drew) := ((Ext.refl wr).alloc _).drew
      have HBB : Hid (((wr.alloc (.cells C 5 fr)).drew).heap[wr.heap.size]? = some (.cells C 5 fr)) := World.alloc_heap_new wr _
      have HG0 : Hid (∃ g, GrBox ((wr.alloc (.cells C 5 fr)).drew) w.heap.size g) := by obtain ⟨g, hg⟩ := HG0.out; exact ⟨g, hg.ext hEE⟩
      have HX := hide ((hEE.b.block _ hbx).trans HX.out)
      have HGZ := hide (lt_of_heap HGB.out)
      have HGB := hide (HGB.out.ext hEE)
      have HGB : Hid (GrBox ((wr.alloc (.cells C 5 fr)).drew) gb ((mk p).set p (rowB (L.take 0) : Nat))) := by
        show GrBox _ _ _
        have := HGB.out
        rw [← HM0.out p (by omega)] at this
        exact this
      clear hEE hcv hcx hbx
      have hgbb : gb < wr.heap.size := HGZ.out
      have hxbb : bx < gb := HXB2.out
      generalize (wr.alloc (.cells C 5 fr)).drew = V0 at HE HBB HG0 HX HGB ⊢
      generalize wr.heap.size = bb at HBB hgbb ⊢
      go_loopw [29] (fun x V => ∃ j : Nat, j ≤ L.length ∧ x = .int .i64 j ∧ Hid (Ext w V) ∧ Hid (∃ g, GrBox V w.heap.size g) ∧ Hid (V.heap[bx]? = some (.cells (xs.map Value.string).toArray 9 (0, 0))) ∧ Hid (V.heap[bb]? = some (.cells C 5 fr)) ∧
        Hid (GrBox V gb ((mk p).set p (rowB (L.take j) : Nat))) ∧ Hid (∀ c ∈ L.take j, okC c = true)) (fun x _ => L.length - (intOf x).toNat)
      case atStart => exact ⟨0, by omega, rfl, HE, HG0, HX, HBB, HGB, fun c hc => by simp at hc⟩
      case round =>
        clear HE HG0 HX HBB HGB
        obtain ⟨j, hj, rfl, HE, HG0, HX, HBB, HGB, HJ2⟩ := hrel
        by_cases hjt : j < L.length
        · have hcb : wr.cell? ⟨bb, j, none⟩ = some (.int .u8 (L[j].toNat : Int)) := by rw [cell_of_row _ _ _ _ _ _ HBB.out]; exact HC.out j hjt
          have hbz := lt_of_heap HBB.out
          have HTK := hide (List.take_succ_eq_append_getElem hjt)
          have hcL : L[j] ∈ L := List.getElem_mem hjt
          have hjb : (j : Int) < 1000000 := by have := HLN.out; omega
          have HCL := hide hcL
          generalize L[j] = c at hcb HTK HCL
          have hc256 : (c.toNat : Int) < 256 := by have := c.toNat_lt; omega
          have hok : okC c = (decide (48 ≤ c.toNat) && decide (c.toNat < 53)) := rfl
          by_cases h1 : (c.toNat : Int) < 48
          · have HR : Hid (res = (gz0, 4)) := HR2.out (by omega) (by
              have h3 : okC c = false := by rw [hok]; simp; omega
              rw [List.all_eq_false]
              refine ⟨L, ?_, ?_⟩
              · rw [← HXL2.out, List.getD_eq_getElem?_getD, List.getElem?_eq_getElem (by rw [HL.out]; exact hlt)]
                exact List.getElem_mem _
              · rw [Bool.not_eq_true, List.all_eq_false]
                exact ⟨c, HCL.out, by rw [h3]; decide⟩)
            obtain ⟨g, hg⟩ := HG0.out
            obtain ⟨d0, d1, d2, d3, d4, d5, dz⟩ := hg.cells
            obtain ⟨f0, f1, f2, f3, f4, f5⟩ := hg.frozen
            have HG := hide hg
            clear hg hok
            go_wp2_with fail
            exact bodyPost_ret (v := .tuple #[gz0.v, .int .i64 4]) (results_gr2 rfl _ rfl rfl (HG.out.store gz0)) rfl ⟨by rw [HR.out], HE.out.gstore (by omega) gz0⟩
          by_cases h2 : 53 ≤ (c.toNat : Int)
          · have HR : Hid (res = (gz0, 4)) := HR2.out (by omega) (by
              have h3 : okC c = false := by rw [hok]; simp; omega
              rw [List.all_eq_false]
              refine ⟨L, ?_, ?_⟩
              · rw [← HXL2.out, List.getD_eq_getElem?_getD, List.getElem?_eq_getElem (by rw [HL.out]; exact hlt)]
                exact List.getElem_mem _
              · rw [Bool.not_eq_true, List.all_eq_false]
                exact ⟨c, HCL.out, by rw [h3]; decide⟩)
            obtain ⟨g, hg⟩ := HG0.out
            obtain ⟨d0, d1, d2, d3, d4, d5, dz⟩ := hg.cells
            obtain ⟨f0, f1, f2, f3, f4, f5⟩ := hg.frozen
            have HG := hide hg
            clear hg hok
            go_wp2_with fail
            exact bodyPost_ret (v := .tuple #[gz0.v, .int .i64 4]) (results_gr2 rfl _ rfl rfl (HG.out.store gz0)) rfl ⟨by rw [HR.out], HE.out.gstore (by omega) gz0⟩
          have HOKC : Hid (okC c = true) := by show _ = _; rw [hok]; simp; omega
          obtain ⟨v, hv⟩ : ∃ v, c.toNat = 48 + v := ⟨c.toNat - 48, by omega⟩
          have HRB := hide (rowB_snoc (L.take j) c)
          rw [← HTK.out, hv, Nat.add_sub_cancel_left] at HRB
          have HJ3 : Hid (∀ c ∈ L.take (j + 1), okC c = true) := fun d hd => by
            rw [HTK.out, List.mem_append, List.mem_singleton] at hd
            rcases hd with h | h
            · exact HJ2.out d h
            · rw [h]; exact HOKC.out
          have hrl := rowB_lt _ HJ2.out
          rw [hv] at hcb h1 h2
          have hv5 : v < 5 := by omega
          have hv5I : (v : Int) < 5 := by omega
          have hcb : wr.cell? ⟨bb, j, none⟩ = some (.int .u8 (48 + (v : Int))) := by rw [hcb]; simp
          have h1 : decide (48 + (v : Int) < 48) = false := by simp; omega
          have h2 : decide (53 ≤ 48 + (v : Int)) = false := by simp; omega
          have hsub : IntKind.u8.wrap (48 + (v : Int) - 48) = (v : Int) := by
            obtain rfl | rfl | rfl | rfl | rfl : v = 0 ∨ v = 1 ∨ v = 2 ∨ v = 3 ∨ v = 4 := by omega
            all_goals rfl
          have hsub2 := (u8_small v hv5).1
          have hsh := pow_shl v hv5
          have hor := i64_or_nat (rowB (L.take j)) (2 ^ v) (Nat.lt_of_lt_of_le hrl (by decide)) (Nat.lt_of_le_of_lt (pow2_32 (show v ≤ 5 by omega)) (by decide))
          obtain ⟨rg, fg⟩ := HGB.out.row (p := p) (by omega)
          rw [Gr.set_h _ _ _ (by omega)] at rg
          have hgz := lt_of_heap HGB.out
          have HNEW := hide (HGB.out.set (p := p) (by omega) (rowB (L.take j) ||| 2 ^ v : Nat))
          rw [Gr.set_set, ← HRB.out] at HNEW
          have HE2 := hide (HE.out.setCell (p := ⟨gb, 1 + p, none⟩) (by show w.heap.size ≤ gb; have := HZ.out; omega) (.int .i64 (rowB (L.take j) ||| 2 ^ v : Nat)))
          have HG02 : Hid (∃ g, GrBox (wr.setCell ⟨gb, 1 + p, none⟩ (.int .i64 (rowB (L.take j) ||| 2 ^ v : Nat))) w.heap.size g) := by
            obtain ⟨g, hg⟩ := HG0.out
            exact ⟨g, (Below.heap_setCell _ _ _ _ (by show w.heap.size ≠ gb; have := HZ.out; omega)).trans hg⟩
          have HX2 := hide ((Below.heap_setCell wr ⟨gb, 1 + p, none⟩ (.int .i64 (rowB (L.take j) ||| 2 ^ v : Nat)) bx (by show bx ≠ gb; omega)).trans HX.out)
          have HBB2 := hide ((Below.heap_setCell wr ⟨gb, 1 + p, none⟩ (.int .i64 (rowB (L.take j) ||| 2 ^ v : Nat)) bb (by show bb ≠ gb; omega)).trans HBB.out)
          rw [← HRB.out] at hor HE2 HG02 HX2 HBB2
          clear hok hc256 hv
          generalize 2 ^ v = y at hsh hor HRB
          generalize hr0 : rowB (L.take j) = r0 at hor rg
          obtain ⟨r1, hr1⟩ : ∃ r1, r1 = rowB (L.take (j + 1)) := ⟨_, rfl⟩
          rw [← hr1] at hor HE2 HG02 HX2 HBB2
          have HR1' := hide hr1
          clear hr0 hr1 hrl
          go_upto_region 13 with fail
          clear hcb h1 h2
          go_wp2_with fail
          go_roundw
          case rel => exact ⟨j + 1, by omega, by go_num, HE2, HG02, HX2, HBB2, by show GrBox _ _ _; rw [HR1'.out]; exact HNEW.out, HJ3⟩
          case measure => simp [intOf]; omega
        · obtain rfl : j = L.length := by omega
          rw [List.take_length] at HGB HJ2
          have HMK2 : Hid ((mk p).set p (rowB L : Nat) = mk (p + 1)) := by
            have := HMK.out p (by omega)
            rw [HXL2.out] at this
            exact this
          rw [HMK2.out] at HGB
          have HJ3 : Hid (∀ i, i < p + 1 → ((splitS s.data.toList).getD i []).all okC = true) := fun i hi => by
            by_cases e : i = p
            · subst e; rw [HXL2.out, List.all_eq_true]; exact HJ2.out
            · exact HJ.out i (by omega)
          go_wp2_with fail
          go_roundw
          case rel => exact ⟨p + 1, by omega, by go_num, HE, HG0, HX, HGB, HJ3⟩
          case measure => simp [intOf]; omega
    · obtain rfl : p = K := by omega
      have hall : (splitS s.data.toList).all (fun x => x.all okC) = true := by
        rw [List.all_eq_true]
        intro x hx
        obtain ⟨i, hi, rfl⟩ := List.getElem_of_mem hx
        have := HJ.out i (by rw [← HL.out]; exact hi)
        rwa [List.getD_eq_getElem?_getD, List.getElem?_eq_getElem hi] at this
      have HR3 := hide (HR3.out (by omega) hall)
      have HR4 := hide (HR4.out (by omega) hall)
      have HR5 := hide (HR5.out (by omega) hall)
      rw [HCD.out] at HR3 HR4 HR5
      obtain ⟨cg, hcg⟩ : ∃ cg, cg = mk p := ⟨_, rfl⟩
      rw [← hcg] at HR3 HR4 HR5 HGB
      clear hall hcg
      have HC := hide (fun W => gcheck_any cg W)
      have HWR := hide (fun n (hn : Wf cg n) W (hE : Ext w W) => written_any cg hn W (hT.ext hE))
      have HWF := hide (wf_of (g := cg))
      obtain ⟨a0, a1, a2, a3, a4, a5, az⟩ := HGB.out.cells
      generalize gchk cg = e at HR3 HR4 HR5 HC HWF
      go_upto_region 16 with fail
      go_wp2_with fail
      refine (HC.out _).mono ?_
      rintro r V ⟨rfl, hE⟩
      have HE := hide (HE.out.trans hE)
      have HGB := hide (HGB.out.ext hE)
      have HG0 : Hid (∃ g, GrBox V w.heap.size g) := by obtain ⟨g, hg⟩ := HG0.out; exact ⟨g, hg.ext hE⟩
      clear hE a0 a1 a2 a3 a4 a5 az
      by_cases he : e = 0
      case neg =>
        have hd : (e != 0) = true := by simp [he]
        have HR := hide (HR3.out he)
        obtain ⟨g, hg⟩ := HG0.out
        obtain ⟨d0, d1, d2, d3, d4, d5, dz⟩ := hg.cells
        obtain ⟨f0, f1, f2, f3, f4, f5⟩ := hg.frozen
        have HG := hide hg
        clear hg he
        go_wp2_with fail
        exact bodyPost_ret (v := .tuple #[gz0.v, .int .i64 4]) (results_gr2 rfl _ rfl rfl (HG.out.store gz0)) rfl ⟨by rw [HR.out], HE.out.gstore (by omega) gz0⟩
      case pos =>
      subst he
      obtain ⟨n, hn⟩ := HWF.out (by trivial)
      have HWR2 := hide (HWR.out n hn V HE.out)
      have HS4 : Hid (wrt cg ≠ s.data.toList → res = (gz0, 4)) := fun h => HR4.out (by trivial) h
      have HS5 : Hid (wrt cg = s.data.toList → res = (cg, 0)) := fun h => HR5.out (by trivial) h
      clear hn HWR HWF HR3 HR4 HR5
      generalize wrt cg = wt at HWR2 HS4 HS5
      obtain ⟨a0, a1, a2, a3, a4, a5, az⟩ := HGB.out.cells
      go_wp2_with fail
      refine HWR2.out.mono ?_
      rintro r V2 ⟨rfl, hE⟩
      have HE := hide (HE.out.trans hE)
      have HGB := hide (HGB.out.ext hE)
      have HG0 : Hid (∃ g, GrBox V2 w.heap.size g) := by obtain ⟨g, hg⟩ := HG0.out; exact ⟨g, hg.ext hE⟩
      clear hE a0 a1 a2 a3 a4 a5 az
      obtain ⟨g, hg⟩ := HG0.out
      obtain ⟨d0, d1, d2, d3, d4, d5, dz⟩ := hg.cells
      obtain ⟨f0, f1, f2, f3, f4, f5⟩ := hg.frozen
      have HG := hide hg
      clear hg
      by_cases hw : wt = s.data.toList
      · have hbs : (⟨wt.toArray⟩ : ByteArray) = s := by rw [hw]
        have HR := hide (HS5.out hw)
        rw [hbs]
        obtain ⟨a0, a1, a2, a3, a4, a5, az⟩ := HGB.out.cells
        clear hw hbs
        go_wp2_with fail
        exact bodyPost_ret (v := .tuple #[cg.v, .int .i64 0]) (results_gr2 rfl _ rfl rfl (HG.out.store cg)) rfl ⟨by rw [HR.out], HE.out.gstore (by omega) cg⟩
      · have hbs : (⟨wt.toArray⟩ : ByteArray) ≠ s := fun h => hw (by rw [← h])
        have HR := hide (HS4.out hw)
        generalize (⟨wt.toArray⟩ : ByteArray) = wb at hbs ⊢
        have hd : (wb.toList == s.toList) = false := beq_eq_false_iff_ne.2 (fun h => hbs (by
          rw [ByteArray.toList_eq, ByteArray.toList_eq] at h
          exact Go.WideShapes.bytes_inj h))
        clear hw hbs
        go_wp2_with fail
        exact bodyPost_ret (v := .tuple #[gz0.v, .int .i64 4]) (results_gr2 rfl _ rfl rfl (HG.out.store gz0)) rfl ⟨by rw [HR.out], HE.out.gstore (by omega) gz0⟩
end Go.Proofs.YtfnhjalnbmnlaaaDoor
