/-
  Products of graphs (graph.gathered, product, Compose).
  Conditions: the table of math/bits lies in the heap (Tz).
-/
import Derived.Test.YtpcboonjalbihaaDoorGBoth
import Derived.Test.YtpcboonjalbihaaDoorMem
namespace Go.Proofs.YtpcboonjalbihaaDoor
open Go.RowKit
attribute [local go_sem] Oper.semAt_some

def gatL (f : Nat → Nat) (l : List Nat) : Nat := l.foldl (fun a m => a ||| f m) 0
theorem gatL_snoc (f : Nat → Nat) (l : List Nat) (m : Nat) : gatL f (l ++ [m]) = gatL f l ||| f m := by unfold gatL; rw [List.foldl_append]; rfl
theorem gatL_el (f : Nat → Nat) (s : Nat) : ∀ k, gatL f ((List.range k).filter fun p => s.testBit p) = unionR f s k
  | 0 => rfl
  | k + 1 => by
    rw [List.range_succ, List.filter_append, unionR]
    cases h : s.testBit k with
    | true => simp only [List.filter_cons, h, if_true, List.filter_nil]; rw [gatL_snoc, gatL_el f s k]
    | false => simp only [List.filter_cons, h, Bool.false_eq_true, if_false, List.filter_nil, List.append_nil, Nat.or_zero]; exact gatL_el f s k
theorem gatL_lt {f : Nat → Nat} (h : ∀ m, f m < 32) : ∀ (l : List Nat), gatL f l < 32 := by
  intro l
  unfold gatL
  have key : ∀ (l : List Nat) (a : Nat), a < 2 ^ 5 → l.foldl (fun a m => a ||| f m) a < 2 ^ 5 := by
    intro l
    induction l with
    | nil => intro a ha; exact ha
    | cons m l ih => intro a ha; exact ih _ (Nat.or_lt_two_pow ha (h m))
  exact key l 0 (by decide)
set_option maxRecDepth 8000 in
set_option maxHeartbeats 1000000 in
theorem gathered_any (g : Gr) {n : Nat} (hg : Wf g n) (s : Nat) (hs : s < 32) (w : World) (hT : Tz w) :
    Calls Tryd.prog 79 #[g.v, .int .i64 s] w fun e w' => e = .returned (.int .i64 (unionR g.r s 5 : Nat)) ∧ Ext w w' := by
  have HM := hide (fun W (hE : Ext w W) => members_any s hs W (hT.ext hE))
  have HG := hide hg
  have HF := hide (gatL_el g.r s 5)
  have HLT := hide (gatL_lt (f := g.r) hg.lt32)
  clear hg hT
  go_enter Tryd.func79, Tryd.ntmps79
  go_wp2_with fail
  obtain ⟨w1, hw1⟩ : ∃ w1, w.alloc (.cells #[.int .i64 g.n, .int .i64 g.h0, .int .i64 g.h1, .int .i64 g.h2, .int .i64 g.h3, .int .i64 g.h4] 24) = w1 := ⟨_, rfl⟩
  have hE1 : Ext w w1 := by rw [← hw1]; exact (Ext.refl w).alloc _
  have HB : Hid (GrBox w1 w.heap.size g) := by show GrBox _ _ _; rw [← hw1]; exact gr_new w g
  rw [hw1]
  clear hw1
  refine (HM.out w1 hE1).mono ?_
  rintro e w2 ⟨u, rfl, hu, hE2⟩
  have HB := hide (HB.out.ext hE2)
  have HE := hide (hE1.trans hE2)
  obtain ⟨p, c, rfl, -, -, hat⟩ := (hu.row (by rw [elI_length]; have := el_len s; omega)).int_all
  have HAT := hide hat
  clear hat hu hE1 hE2
  go_wp2_with fail
  rw [elI_length] at HAT ⊢
  have HLL := hide (el_len s)
  go_loop [5, 11] (fun o x => ∃ i : Nat, i ≤ (el s).length ∧ x = .int .i64 i ∧ o = .int .i64 (gatL g.r ((el s).take i) : Nat)) (fun _ x => (el s).length - (intOf x).toNat)
  case atStart => exact ⟨0, by omega, rfl, rfl⟩
  case round =>
    obtain ⟨i, hi, rfl, rfl⟩ := hrel
    have hgl := HLT.out ((el s).take i)
    by_cases hlt : i < (el s).length
    · obtain ⟨b, o, rfl, hb, hat⟩ := HAT.out (by omega)
      have hx := hat i hlt w2 (Ext.refl _)
      have hm := el_lt (s := s) (List.getElem_mem hlt)
      have hxe : (elI s).getD i 0 = ((el s)[i] : Int) := by
        unfold elI; rw [List.getD_eq_getElem?_getD, List.getElem?_map, List.getElem?_eq_getElem hlt]; rfl
      have HS := hide (gatL_snoc g.r ((el s).take i) (el s)[i])
      rw [hxe] at hx
      rw [← List.take_succ_eq_append_getElem hlt] at HS
      generalize (el s)[i] = m at hx hm HS
      obtain ⟨hrow, -⟩ := HB.out.row (p := m) hm.1
      have hz := lt_of_heap HB.out
      rw [HG.out.row] at hrow
      have hr32 := HG.out.lt32 m
      have hm5 : (m : Int) < 5 := by have := hm.1; omega
      have hor := i64_or_nat (gatL g.r ((el s).take i)) (g.r m) (by omega) (by omega)
      rw [← HS.out] at hor
      have hi5 : i < 5 := by have := HLL.out; omega
      clear hat hxe hm hi HS
      generalize gatL g.r ((el s).take i) = x0 at *
      go_wp2_with fail
      go_round
      case rel => exact ⟨i + 1, by omega, by go_num, rfl⟩
      case measure => simp [intOf]; omega
    · obtain rfl : i = (el s).length := by omega
      rw [List.take_length]
      have HF' : Hid (gatL g.r (el s) = unionR g.r s 5) := HF.out
      go_wp2_with fail
      go_ret
      exact ⟨ret_int (by rw [HF'.out]), HE.out⟩
set_option maxRecDepth 8000 in
set_option maxHeartbeats 1000000 in
theorem product1_any (a b : Gr) {n : Nat} (ha : Wf a n) (hb : Wf b n) (p : Nat) (hp : p < n) (ba bb : Nat) (w : World) (hT : Tz w) (hba : GrBox w ba a) (hbb : GrBox w bb b) :
    Calls Tryd.prog 78 #[.int .i64 p, .pointer (some ⟨ba, 0, none⟩), .pointer (some ⟨bb, 0, none⟩)] w fun e w' => e = .returned (.int .i64 (unionR a.r (b.r p) 5 : Nat)) ∧ Ext w w' := by
  have HG := hide (fun W (hE : Ext w W) => gathered_any a ha (b.r p) (hb.lt32 p) W (hT.ext hE))
  have hp5 : (p : Int) < 5 := by have := ha.n5; omega
  obtain ⟨hrow, -⟩ := hbb.row (p := p) (by omega)
  rw [hb.row] at hrow
  have z2 := lt_of_heap hbb
  obtain ⟨c0, c1, c2, c3, c4, c5, z1⟩ := hba.cells
  clear ha hb hba hbb hT hp
  generalize b.r p = x at HG hrow ⊢
  go_enter Tryd.func78, Tryd.ntmps78
  go_wp2_with fail
  refine wp_region_ext (by kernel_rfl) (by kernel_rfl) ?_
  repeat (go_big_quiet_step ((go_at_call 79; exact Calls.ext_of (HG.out _ (by simp [go_sem])))))
  refine wpQuiet_nil ?_
  rintro w9 ⟨⟨_, hE9⟩, rfl⟩
  go_wp2_with fail
  go_ret
  exact ⟨rfl, hE9⟩
theorem enters_p1 : ∀ args w, (callFunc 78 args).run Tryd.prog w = .ok (.enter 78 args) w := fun _ _ => by kernel_rfl
set_option maxHeartbeats 1000000 in
theorem product_any (a b : Gr) {n : Nat} (ha : Wf a n) (hb : Wf b n) (w : World) (hT : Tz w) :
    Calls Tryd.prog 59 #[a.v, b.v] w fun e w' => e = .returned (compG a b).v ∧ Ext w w' := by
  have HP := hide (fun p hp ba bb W (hE : Ext w W) h1 h2 => product1_any a b ha hb p hp ba bb W (hT.ext hE) h1 h2)
  have HM := hide (made_any n ha.n5 78)
  have HN := hide ha.n_eq
  have HC : Hid (compG a b = mkG n (fun p => (unionR a.r (b.r p) 5 : Nat)) n) := by show _ = _; unfold compG natG; rw [ha.toNat]
  rw [HC.out]
  generalize hr : mkG n (fun p => (unionR a.r (b.r p) 5 : Nat)) n = r
  have HR := hide hr
  clear ha hb hT hr HC
  go_enter Tryd.func59, Tryd.ntmps59
  go_wp2_with fail
  have HT := hide (Three.mk_ w a b)
  generalize ((w.alloc (gobj a)).alloc (gobj b)).alloc gobj0 = W at HT ⊢
  rw [HN.out]
  refine (HM.out _ _ _ enters_p1 (fun p W hp hE => by exact HP.out p hp _ _ W (HT.out.ext.trans hE) (HT.out.a.ext hE) (HT.out.b.ext hE))).mono ?_
  rintro e w2 ⟨rfl, hE2⟩
  have HT := hide (HT.out.ext_ hE2)
  clear hE2
  rw [HR.out]
  obtain ⟨g, hg⟩ := HT.out.c
  obtain ⟨d0, d1, d2, d3, d4, d5, dz⟩ := hg.cells
  obtain ⟨f0, f1, f2, f3, f4, f5⟩ := hg.frozen
  have HG := hide hg
  clear hg
  go_wp2_with fail
  exact bodyPost_ret (v := r.v) (results_gr rfl _ rfl (HG.out.store r)) rfl ⟨rfl, HT.out.ext.gstore (by omega) r⟩
end Go.Proofs.YtpcboonjalbihaaDoor
