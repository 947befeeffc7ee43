/-
  The texts of sets and graphs (graph.text, written, Format).
  Conditions: the table of math/bits lies in the heap (Tz).
-/
import Derived.Test.YtfnhjalnbmnlaaaDoorShelf
import Derived.Shelf.Strings.MapGrows
import Derived.Test.YtfnhjalnbmnlaaaDoorTzMem
namespace Go.Proofs.YtfnhjalnbmnlaaaDoor
open Go.RowKit
attribute [local go_sem] Oper.semAt_some

/-- The text of a set. -/
def txt (s : Nat) : List UInt8 := (el s).map fun m => UInt8.ofNat (48 + m)
theorem txt_byte (m : Nat) (h : m < 5) : ((UInt8.ofNat (48 + m)).toNat : Int) = 48 + (m : Int) := by
  obtain rfl | rfl | rfl | rfl | rfl : m = 0 ∨ m = 1 ∨ m = 2 ∨ m = 3 ∨ m = 4 := by omega
  all_goals rfl
theorem txt_cells {s i : Nat} (h : i < (el s).length) : Lib.byteCells ((txt s).take (i + 1)) = Lib.byteCells ((txt s).take i) ++ [.int .u8 (48 + ((el s)[i] : Int))] := by
  have hm := el_lt (s := s) (List.getElem_mem h)
  have hl : i < (txt s).length := by unfold txt; rw [List.length_map]; exact h
  rw [List.take_succ_eq_append_getElem hl]
  unfold Lib.byteCells
  rw [List.map_append]
  congr 1
  have : (txt s)[i] = UInt8.ofNat (48 + (el s)[i]) := by simp only [txt, List.getElem_map]
  rw [List.map_cons, List.map_nil, this, txt_byte _ hm.1]
theorem u8_small (m : Nat) (h : m < 5) : IntKind.u8.wrap (m : Int) = m ∧ IntKind.u8.wrap (48 + (m : Int)) = 48 + (m : Int) := by
  obtain rfl | rfl | rfl | rfl | rfl : m = 0 ∨ m = 1 ∨ m = 2 ∨ m = 3 ∨ m = 4 := by omega
  all_goals exact ⟨rfl, rfl⟩
set_option maxRecDepth 8000 in
set_option maxHeartbeats 1000000 in
theorem text_any (s : Nat) (hs : s < 32) (w : World) (hT : Tz w) : Calls Tryd.prog 115 #[.int .i64 s] w fun e w' => e = .returned (.string ⟨(txt s).toArray⟩) ∧ Ext w w' := by
  have HM := hide (fun W (hE : Ext w W) => members_any s hs W (hT.ext hE))
  have HW := hide (fun bs c W h h1 h2 => SBuilder_WriteByte_k w.heap.size w.heap.size bs c W h h1 h2)
  have HS := hide (fun l W h h2 => SBuilder_String_any_k w.heap.size w.heap.size l W h h2)
  have HTL := hide (show (txt s).length = (el s).length from by unfold txt; rw [List.length_map])
  have HLL := hide (el_len s)
  clear hT
  go_enter Tryd.func115, Tryd.ntmps115
  go_wp2_with fail
  have HB : Hid (Lib.IsBuilderF 114 5 w.heap.size w.heap.size [] (w.alloc (.cells #[.pointer none, .slice none 0 0] 114))) := Lib.IsBuilderF.of (Lib.fresh_isBuilder _ _ w)
  have HE : Hid (Ext w (w.alloc (.cells #[.pointer none, .slice none 0 0] 114))) := (Ext.refl w).alloc _
  have HZ : Hid (w.heap.size + 1 = (w.alloc (.cells #[.pointer none, .slice none 0 0] 114)).heap.size) := by show _ = _; simp
  generalize w.alloc (.cells #[.pointer none, .slice none 0 0] 114) = W at HB HE HZ ⊢
  refine (HM.out W HE.out).mono ?_
  rintro e w2 ⟨u, rfl, hu, hE⟩
  have HB := hide (HB.out.below hE.b)
  have HE := hide (HE.out.trans hE)
  have HZ2 := hide (show w.heap.size + 1 ≤ w2.heap.size from by have := HZ.out; have := hE.size; omega)
  obtain ⟨g, hg⟩ : ∃ g : Nat, (0 < (el s).length → ∃ c, u = .slice (some ⟨g, 0, none⟩) (el s).length c) ∧ (0 < (el s).length → w.heap.size < g ∧ g < w2.heap.size ∧ (∃ cur fr, w2.heap[g]? = some (.cells cur 3 fr)) ∧ ∀ i (h : i < (el s).length), w2.cell? ⟨g, i, none⟩ = some (.int .i64 ((el s)[i] : Int))) := by
    rcases hu.form with ⟨rfl, h0⟩ | ⟨g, c, rfl, h1, h2, h3, h4⟩
    · refine ⟨0, fun h => ?_, fun h => ?_⟩ <;> (rw [← elI_length, h0] at h; simp at h)
    · rw [elI_length] at hu
      refine ⟨g, fun _ => ⟨c, by rw [elI_length]⟩, fun _ => ⟨by have := HZ.out; omega, h2, hu.typed g rfl, fun i hi => ?_⟩⟩
      have hx : (elI s)[i]? = some ((el s)[i] : Int) := by unfold elI; rw [List.getElem?_map, List.getElem?_eq_getElem hi]; rfl
      have := hu.2.cells (g := g) rfl (i * 1 + 0) (.int .i64 ((el s)[i] : Int)) (by rw [flat_get hu.1 (elI s) i 0 _ hx (by decide)]; rfl)
      rw [add_lit, Nat.mul_one, Nat.add_zero] at this
      exact this
  obtain ⟨q, c, rfl⟩ := hu.sl
  rw [elI_length] at hg ⊢
  have HG := hide hg
  clear hg hu hE
  go_wp2_with fail
  go_loopw [9] (fun x V => ∃ i : Nat, i ≤ (el s).length ∧ x = .int .i64 i ∧ Hid (Ext w V) ∧ Hid (w2.heap.size ≤ V.heap.size) ∧ Hid (Lib.IsBuilderF 114 5 w.heap.size w.heap.size (Lib.byteCells ((txt s).take i)) V) ∧ Hid (0 < (el s).length → V.heap[g]? = w2.heap[g]?)) (fun x _ => (el s).length - (intOf x).toNat)
  case atStart => exact ⟨0, by omega, rfl, HE, Nat.le_refl _, HB, fun _ => rfl⟩
  case round =>
    clear HB HE
    obtain ⟨i, hi, rfl, HE, HV, HB, HK⟩ := hrel
    have hi5 : i ≤ 5 := by have := HLL.out; omega
    by_cases hlt : i < (el s).length
    · obtain ⟨hq1, hq2⟩ := HG.out
      obtain ⟨cc, hq⟩ := hq1 (by omega)
      injection hq with e1 _ e2
      subst e1 e2
      obtain ⟨g1, g2, ⟨cur, fr, g3⟩, g4⟩ := hq2 (by omega)
      have hx := (World.cell?_of_block (a := ⟨g, i, none⟩) (HK.out (by omega))).trans (g4 i hlt)
      have hgz : g < wr.heap.size := by have := HV.out; omega
      have HTC := hide (txt_cells hlt)
      have hm := (el_lt (s := s) (List.getElem_mem hlt)).1
      obtain ⟨hcv, hadd⟩ := u8_small _ hm
      have G3 := hide g3
      have G1 := hide g1
      generalize (el s)[i] = m at hx HTC hm hcv hadd
      have HL5 : Hid ((Lib.byteCells ((txt s).take i)).length ≤ 5) := by show _ ≤ _; rw [Lib.byteCells_length, List.length_take]; omega
      clear hq1 hq2 g1 g3 g4 hm
      go_wp2_with fail
      refine (HW.out _ _ wr HB.out (by have := HL5.out; omega) HE.out.size).mono ?_
      rintro e V ⟨rfl, hb2, hbe, hok⟩
      have HB2 : Hid (Lib.IsBuilderF 114 5 w.heap.size w.heap.size (Lib.byteCells ((txt s).take (i + 1))) V) := by
        show Lib.IsBuilderF _ _ _ _ _ _
        rw [HTC.out]; exact .inr hb2
      have HE2 : Hid (Ext w V) := ⟨HE.out.b.trans hbe⟩
      have HV2 : Hid (w2.heap.size ≤ V.heap.size) := Nat.le_trans HV.out hbe.size
      have HK2 : Hid (0 < (el s).length → V.heap[g]? = w2.heap[g]?) := fun _ => by
        have h1 := (HK.out (by omega)).trans G3.out
        refine (hok g _ h1 (fun e => ?_) (fun c fz e => ?_)).trans G3.out.symm
        · have := G1.out
          injection e with e
          omega
        · injection e with _ e _
          exact absurd e (by decide)
      clear hb2 hbe hok hx hgz
      go_wp2_with fail
      go_roundw
      case rel => exact ⟨i + 1, by omega, by go_num, HE2, HV2, HB2, HK2⟩
      case measure => simp [intOf]; omega
    · obtain rfl : i = (el s).length := by omega
      rw [← HTL.out, List.take_length] at HB
      go_wp2_with fail
      refine (HS.out _ wr HB.out HE.out.size).mono ?_
      rintro e V ⟨rfl, -, hbe, -⟩
      have HE2 : Hid (Ext w V) := ⟨HE.out.b.trans hbe⟩
      clear hbe
      go_wp2_with fail
      go_ret
      exact ⟨rfl, HE2.out⟩
end Go.Proofs.YtfnhjalnbmnlaaaDoor
