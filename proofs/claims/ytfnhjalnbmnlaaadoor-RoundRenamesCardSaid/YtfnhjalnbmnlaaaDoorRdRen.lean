/-
  The law's renamed: the rounds of a word, renamed.
  Conditions: none.
-/
import Derived.Test.YtfnhjalnbmnlaaaDoorRdPrm
import Derived.Test.YtfnhjalnbmnlaaaDoorRdLaw
import Derived.Deep.CutRange
namespace Go.Proofs.YtfnhjalnbmnlaaaDoor
open Go.RowKit
attribute [local go_sem] Oper.semAt_some

/-- What renamed yields of a word whose rounds can be renamed. -/
def RetRn (x : List Rd) (w : World) (e : Ending) (w' : World) : Prop := ∃ v, e = .returned (.tuple #[v, .bool true]) ∧ Own Rd.cells 7 w' w.heap.size 26 v x ∧ Ext w w'
theorem renL_take {l : List Rd} {a : List Int} {i : Nat} (h : i < l.length) : renL (l.take (i + 1)) a = renL (l.take i) a ++ [permR (l.getD i default) a] := by
  unfold renL
  rw [List.take_succ_eq_append_getElem h, List.map_append, List.getD_eq_getElem?_getD, List.getElem?_eq_getElem h]; rfl
set_option maxRecDepth 16000 in
set_option maxHeartbeats 2000000 in
theorem renamed_any15 (l : List Rd) (a : List Int) (u v : Value) (w : World) (hu : Row Rd.cells 7 w u l) (hv : Row icells 1 w v a) (hl : l.length ≤ 1024) (hok : ∀ i, i < l.length → rpermS (l.getD i default) a = (permR (l.getD i default) a, 0)) :
    Calls Tryd.prog 31 #[u, v] w (RetRn (renL l a) w) := by
  have HPP := hide (fun i (hi : i < l.length) W (hE : Ext w W) => hok i hi ▸ rdpermute_any (l.getD i default) a v W (hv.ext hE))
  have HRT := hide (fun i (hi : i < l.length) => renL_take (a := a) hi)
  have HR0 : Hid (renL (l.take 0) a = []) := by show _ = _; rw [List.take_zero]; rfl
  have HRN : Hid (renL (l.take l.length) a = renL l a) := by show _ = _; rw [List.take_length]
  have HLN := hide (fun i (hi : i ≤ l.length) => (show (renL (l.take i) a).length = i by unfold renL; rw [List.length_map, List.length_take]; omega))
  obtain ⟨p, c, rfl, hc, hlen, hat⟩ := hu.rd_all
  have HA := hide hat
  clear hu hat hok
  generalize renL l a = res at HRN ⊢
  generalize hrt : (fun i => renL (l.take i) a) = rt
  have HRT2 : Hid (∀ i, i < l.length → rt (i + 1) = rt i ++ [permR (l.getD i default) a]) := by rw [← hrt]; exact HRT.out
  have HR02 : Hid (rt 0 = []) := by rw [← hrt]; exact HR0.out
  have HRN2 : Hid (rt l.length = res) := by rw [← hrt]; exact HRN.out
  have HLN2 : Hid (∀ i, i ≤ l.length → (rt i).length = i) := by rw [← hrt]; exact HLN.out
  clear hrt HRT HR0 HRN HLN
  go_enter Tryd.func31, Tryd.ntmps31
  go_wp2_with fail
  have HE : Hid (Ext w w) := Ext.refl w
  have HO : Hid (Own Rd.cells 7 w w.heap.size 26 (.slice none 0 0) (rt 0)) := by show Own _ _ _ _ _ _ _; rw [HR02.out]; exact Own.nil _ _ _ (fun _ => rfl)
  go_loopw [13, 6, 8, 9, 10] (fun x u _ _ _ V => ∃ i : Nat, i ≤ l.length ∧ x = .int .i64 i ∧ Hid (Ext w V) ∧ Hid (Own Rd.cells 7 V w.heap.size 26 u (rt i))) (fun x _ _ _ _ _ => l.length - (intOf x).toNat)
  case atStart => exact ⟨0, by omega, rfl, HE, HO⟩
  case round =>
    clear HE HO
    obtain ⟨i, hi, rfl, HE, HO⟩ := hrel
    by_cases hlt : i < l.length
    · obtain ⟨b, o, rfl, hb, hat⟩ := HA.out (by omega)
      have hx := hat i hlt
      have HC2 := hide (HPP.out i hlt)
      have HSS := hide (HRT2.out i hlt)
      have HTI := hide (HLN2.out i (by omega))
      generalize permR (l.getD i default) a = q at HC2 HSS
      generalize l.getD i default = r at hx HC2
      obtain ⟨x0, x1, x2, x3, x4, x5, x6⟩ := hx
      replace x0 := x0 _ HE.out
      replace x1 := x1 _ HE.out
      replace x2 := x2 _ HE.out
      replace x3 := x3 _ HE.out
      replace x4 := x4 _ HE.out
      replace x5 := x5 _ HE.out
      replace x6 := x6 _ HE.out
      obtain ⟨su, sc, rfl⟩ := HO.out.sl
      rw [HTI.out]
      clear hat
      go_upto_region 5 with fail
      clear x0 x1 x2 x3 x4 x5 x6
      have HE := hide (HE.out.alloc (robj r))
      have HO : Hid (Own Rd.cells 7 (wr.alloc (robj r)) w.heap.size 26 (.slice su i sc) (rt i)) := by have := HO.out.alloc (robj r); rwa [HTI.out] at this
      have HB8 : Hid (RdBox (wr.alloc (robj r)) wr.heap.size r) := rd_new wr r
      change Code.wp _ _ _ _ (wr.alloc (robj r))
      generalize wr.alloc (robj r) = W3 at HE HO HB8 ⊢
      generalize wr.heap.size = b8 at HB8 ⊢
      obtain ⟨c0, c1, c2, c3, c4, c5, c6, cz⟩ := HB8.out.cells
      go_wp2_with fail
      clear c0 c1 c2 c3 c4 c5 c6 cz
      refine (HC2.out _ HE.out).mono ?_
      rintro e w4 ⟨rfl, hE⟩
      have HE := hide (HE.out.trans hE)
      have HO := hide (HO.out.ext hE)
      clear hE HB8
      go_upto_region 8 with fail
      have HE := hide (HE.out.alloc (robj q))
      have HO := hide (HO.out.alloc (robj q))
      have HB9 : Hid (RdBox (w4.alloc (robj q)) w4.heap.size q) := rd_new w4 q
      change Code.wp _ _ _ _ (w4.alloc (robj q))
      generalize w4.alloc (robj q) = W5 at HE HO HB9 ⊢
      generalize w4.heap.size = b9 at HB9 ⊢
      obtain ⟨c0, c1, c2, c3, c4, c5, c6, cz⟩ := HB9.out.cells
      go_wp2_with (at_builtin; refine wpList_append1 rfl (.tmp 25) (.tmp 27) 35 rfl w.heap.size 26 (Rd.v default) 7 56 Tryd.underlying35 rd_info rfl (by decide) _ (rt i) q W5.heap.size rfl (HO.out.alloc _) rfl (rd_new_cells _ _) (rd_ones q) (by have := HTI.out; omega) (by decide) (by simp only [World.size_alloc]; have := HE.out.size; omega) ?_; intro v' W6 hown' hg6 hf6; obtain ⟨g7, c7, rfl, -⟩ := hf6)
      have hge := HO.out.block_ge
      have HE6 : Hid (Ext w W6) := (HE.out.alloc _).grown hg6 (fun k hk => by have := hge k hk; omega)
      rw [← HSS.out] at hown'
      have HFIN := hide hown'
      clear hge hown' hg6 HSS HTI c0 c1 c2 c3 c4 c5 c6 cz
      go_wp2_with fail
      go_roundw
      case rel => exact ⟨i + 1, by omega, by go_num, HE6, HFIN⟩
      case measure => simp [intOf]; omega
    · obtain rfl : i = l.length := by omega
      rw [HRN2.out] at HO
      go_wp2_with fail
      go_ret2
      exact ⟨_, rfl, HO.out, HE.out⟩
end Go.Proofs.YtfnhjalnbmnlaaaDoor
