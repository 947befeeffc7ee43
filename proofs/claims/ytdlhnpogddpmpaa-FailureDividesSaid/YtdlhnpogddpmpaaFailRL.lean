/-
  The reference's layer 17: One, Snapshot.
  Conditions: none.
-/
import Derived.Test.YtdlhnpogddpmpaaFailRk
namespace Go.Proofs.Ytdlhnpogddpmpaa
open Go.RowKit
attribute [local go_sem] Oper.semAt_some

def snpQ (g : Gr) (p q : Nat) : Bool := (!insd (g.h p).toNat (g.h q).toNat && !insd (g.h q).toNat (g.h p).toNat) || (bit (g.h p).toNat q && !insd (g.h q).toNat (g.h p).toNat)
theorem snapB_eq (n : Nat) (g : Gr) : ((∀ p, p < n → ∀ q, q < n → snpQ g p q = false) → snapB n g = true) ∧ (∀ p q, p < n → q < n → snpQ g p q = true → snapB n g = false) := by
  refine ⟨fun h => ?_, fun p q hp hq h => ?_⟩
  · unfold snapB
    rw [List.all_eq_true]
    intro p hp
    rw [List.all_eq_true]
    intro q hq
    have := h p (List.mem_range.1 hp) q (List.mem_range.1 hq)
    unfold snpQ at this
    rw [this]; rfl
  · cases hj : snapB n g with
    | false => rfl
    | true =>
      unfold snapB at hj
      rw [List.all_eq_true] at hj
      have := hj p (List.mem_range.2 hp)
      rw [List.all_eq_true] at this
      have := this q (List.mem_range.2 hq)
      unfold snpQ at h
      rw [h] at this
      cases this
set_option maxRecDepth 16000 in
set_option maxHeartbeats 4000000 in
theorem rsnap17_any {n : Nat} {g : Gr} (hn : n ≤ 5) (hg : GS n g) (w : World) :
    Calls Try.prog 40 #[g.v] w fun e w' => e = .returned (.bool (snapB n g)) ∧ Ext w w' := by
  have HV := hide (snapB_eq n g)
  obtain ⟨w1, hw1⟩ : ∃ w1, w.alloc (.cells #[.int .i64 g.n, .int .i64 g.h0, .int .i64 g.h1, .int .i64 g.h2, .int .i64 g.h3, .int .i64 g.h4] 38) = w1 := ⟨_, rfl⟩
  have HE0 : Hid (Ext w w1) := by show Ext _ _; rw [← hw1]; exact (Ext.refl w).alloc _
  have HG : Hid (GrBox w1 w.heap.size g) := by show _ = _; rw [← hw1]; exact heap_alloc_new w _
  have HW := hide hw1
  have HGH := hide hg.2
  have HGN := hide hg.1
  clear hw1 hg
  generalize snapB n g = res at HV ⊢
  go_enter Try.func40, Try.ntmps40
  go_wp2_with fail
  rw [HW.out]
  go_loopw [3, 4, 5, 6] (fun v _ _ _ wr => ∃ p : Nat, p ≤ n ∧ v = .int .i64 p ∧ Hid (Ext w1 wr) ∧ Hid (∀ z, z < p → ∀ y, y < n → snpQ g z y = false)) (fun v _ _ _ _ => n - (intOf v).toNat)
  case atStart => exact ⟨0, Nat.zero_le _, rfl, Ext.refl _, fun z hz => absurd hz (Nat.not_lt_zero z)⟩
  case round =>
    obtain ⟨p, hp, rfl, HE, HL⟩ := hrel
    have hgn := HGN.out
    have hGB0 : GrBox wr w.heap.size g := (HE.out.b.block _ (lt_of_heap HG.out)).trans HG.out
    obtain ⟨g0, -⟩ := GrBox.cells hGB0
    have gz := lt_of_heap hGB0
    rw [hgn] at g0
    clear hGB0 hgn
    by_cases hlt : p < n
    · obtain ⟨sp, hsp, hsp32⟩ := HGH.out p (by omega)
      have HSP := hide hsp
      have hp5 : (p : Int) < 5 := by omega
      clear hsp
      go_upto_region 5 with fail
      obtain ⟨V0, hV0⟩ : ∃ V0, V0 = wr := ⟨_, rfl⟩
      subst hV0
      clear g0 gz
      go_loopw [4, 5, 6] (fun v _ _ wr => ∃ q : Nat, q ≤ n ∧ v = .int .i64 q ∧ Hid (Ext w1 wr) ∧ Hid (∀ y, y < q → snpQ g p y = false)) (fun v _ _ _ => n - (intOf v).toNat)
      case atStart => exact ⟨0, Nat.zero_le _, rfl, HE, fun z hz => absurd hz (Nat.not_lt_zero z)⟩
      case round =>
        obtain ⟨q, hq, rfl, HE1, HL1⟩ := hrel
        have hgn := HGN.out
        have hGB0 : GrBox wr w.heap.size g := (HE1.out.b.block _ (lt_of_heap HG.out)).trans HG.out
        obtain ⟨g0, -⟩ := GrBox.cells hGB0
        have gz := lt_of_heap hGB0
        rw [hgn] at g0
        by_cases hltq : q < n
        · obtain ⟨sq, hsq, hsq32⟩ := HGH.out q (by omega)
          obtain ⟨y0, -⟩ := hGB0.row (p := p) (by omega)
          obtain ⟨x0, -⟩ := hGB0.row (p := q) (by omega)
          rw [HSP.out] at y0
          rw [hsq] at x0
          have htp : (g.h p).toNat = sp := by rw [HSP.out]; rfl
          have htq : (g.h q).toNat = sq := by rw [hsq]; rfl
          have hq5 : (q : Int) < 5 := by omega
          have HB := hide (fun W => rhasb_any (s := sp) (p := q) hsp32 (by omega) W)
          have HIAB : Hid (∀ W, Calls Try.prog 62 #[.int .i64 sp, .int .i64 sq] W fun e w' => e = .returned (.bool (insd sp sq)) ∧ w' = W) := fun W => rinsd_any hsp32 hsq32 W
          have HIBA : Hid (∀ W, Calls Try.prog 62 #[.int .i64 sq, .int .i64 sp] W fun e w' => e = .returned (.bool (insd sq sp)) ∧ w' = W) := fun W => rinsd_any hsq32 hsp32 W
          clear hGB0 hgn hsq
          go_upto_region 7 with fail
          refine wp_region_ext (by kernel_rfl) (by kernel_rfl) ?_
          repeat (go_big_quiet_step (fail))
          refine wpQuiet_nil ?_
          rintro w9 ⟨⟨_, hE9⟩, rfl⟩
          have HE9 := hide (HE1.out.trans hE9)
          clear hE9 y0 x0 gz g0
          obtain ⟨g0, -⟩ := GrBox.cells ((HE9.out.b.block _ (lt_of_heap HG.out)).trans HG.out)
          have gz := lt_of_heap ((HE9.out.b.block _ (lt_of_heap HG.out)).trans HG.out)
          rw [HGN.out] at g0
          cases h1 : insd sp sq with
          | false =>
            cases h2 : insd sq sp with
            | false =>
              cases h3 : bit sp q with
              | false =>
                have HQ : Hid (snpQ g p q = true) := by show _ = _; unfold snpQ; rw [htp, htq, h1, h2, h3]; rfl
                rw [h1] at HIAB
                rw [h2] at HIBA
                rw [h3] at HB
                clear h1 h2 h3 htp htq
                go_wp2_with (first | (go_at_call 60; refine (HB.out _).mono ?_; rintro e w' ⟨rfl, rfl⟩) | (go_at_call 62; (first | with_reducible refine (HIAB.out _).mono ?_ | with_reducible refine (HIBA.out _).mono ?_); rintro e w' ⟨rfl, rfl⟩))
                go_ret
                exact ⟨ret_bool (HV.out.2 p q hlt hltq HQ.out).symm, HE0.out.trans HE9.out⟩
              | true =>
                have HQ : Hid (snpQ g p q = true) := by show _ = _; unfold snpQ; rw [htp, htq, h1, h2, h3]; rfl
                rw [h1] at HIAB
                rw [h2] at HIBA
                rw [h3] at HB
                clear h1 h2 h3 htp htq
                go_wp2_with (first | (go_at_call 60; refine (HB.out _).mono ?_; rintro e w' ⟨rfl, rfl⟩) | (go_at_call 62; (first | with_reducible refine (HIAB.out _).mono ?_ | with_reducible refine (HIBA.out _).mono ?_); rintro e w' ⟨rfl, rfl⟩))
                go_ret
                exact ⟨ret_bool (HV.out.2 p q hlt hltq HQ.out).symm, HE0.out.trans HE9.out⟩
            | true =>
              cases h3 : bit sp q with
              | false =>
                have HQ : Hid (snpQ g p q = false) := by show _ = _; unfold snpQ; rw [htp, htq, h1, h2, h3]; rfl
                have HLQ : Hid (∀ z, z < q + 1 → snpQ g p z = false) := fun z hz => by
                  rcases Nat.lt_succ_iff_lt_or_eq.1 hz with h | rfl
                  · exact HL1.out z h
                  · exact HQ.out
                rw [h1] at HIAB
                rw [h2] at HIBA
                rw [h3] at HB
                clear h1 h2 h3 htp htq
                go_wp2_with (first | (go_at_call 60; refine (HB.out _).mono ?_; rintro e w' ⟨rfl, rfl⟩) | (go_at_call 62; (first | with_reducible refine (HIAB.out _).mono ?_ | with_reducible refine (HIBA.out _).mono ?_); rintro e w' ⟨rfl, rfl⟩))
                go_roundw
                case rel => first
                  | exact ⟨q + 1, by omega, by go_num, HE9, HLQ⟩
                  | ((repeat apply Exists.intro); exact ⟨⟨q + 1, by omega, by go_num, HE9, HLQ⟩, rfl⟩)
                case measure => simp [intOf]; omega
              | true =>
                have HQ : Hid (snpQ g p q = false) := by show _ = _; unfold snpQ; rw [htp, htq, h1, h2, h3]; rfl
                have HLQ : Hid (∀ z, z < q + 1 → snpQ g p z = false) := fun z hz => by
                  rcases Nat.lt_succ_iff_lt_or_eq.1 hz with h | rfl
                  · exact HL1.out z h
                  · exact HQ.out
                rw [h1] at HIAB
                rw [h2] at HIBA
                rw [h3] at HB
                clear h1 h2 h3 htp htq
                go_wp2_with (first | (go_at_call 60; refine (HB.out _).mono ?_; rintro e w' ⟨rfl, rfl⟩) | (go_at_call 62; (first | with_reducible refine (HIAB.out _).mono ?_ | with_reducible refine (HIBA.out _).mono ?_); rintro e w' ⟨rfl, rfl⟩))
                go_roundw
                case rel => first
                  | exact ⟨q + 1, by omega, by go_num, HE9, HLQ⟩
                  | ((repeat apply Exists.intro); exact ⟨⟨q + 1, by omega, by go_num, HE9, HLQ⟩, rfl⟩)
                case measure => simp [intOf]; omega
          | true =>
            cases h2 : insd sq sp with
            | false =>
              cases h3 : bit sp q with
              | false =>
                have HQ : Hid (snpQ g p q = false) := by show _ = _; unfold snpQ; rw [htp, htq, h1, h2, h3]; rfl
                have HLQ : Hid (∀ z, z < q + 1 → snpQ g p z = false) := fun z hz => by
                  rcases Nat.lt_succ_iff_lt_or_eq.1 hz with h | rfl
                  · exact HL1.out z h
                  · exact HQ.out
                rw [h1] at HIAB
                rw [h2] at HIBA
                rw [h3] at HB
                clear h1 h2 h3 htp htq
                go_wp2_with (first | (go_at_call 60; refine (HB.out _).mono ?_; rintro e w' ⟨rfl, rfl⟩) | (go_at_call 62; (first | with_reducible refine (HIAB.out _).mono ?_ | with_reducible refine (HIBA.out _).mono ?_); rintro e w' ⟨rfl, rfl⟩))
                go_roundw
                case rel => first
                  | exact ⟨q + 1, by omega, by go_num, HE9, HLQ⟩
                  | ((repeat apply Exists.intro); exact ⟨⟨q + 1, by omega, by go_num, HE9, HLQ⟩, rfl⟩)
                case measure => simp [intOf]; omega
              | true =>
                have HQ : Hid (snpQ g p q = true) := by show _ = _; unfold snpQ; rw [htp, htq, h1, h2, h3]; rfl
                rw [h1] at HIAB
                rw [h2] at HIBA
                rw [h3] at HB
                clear h1 h2 h3 htp htq
                go_wp2_with (first | (go_at_call 60; refine (HB.out _).mono ?_; rintro e w' ⟨rfl, rfl⟩) | (go_at_call 62; (first | with_reducible refine (HIAB.out _).mono ?_ | with_reducible refine (HIBA.out _).mono ?_); rintro e w' ⟨rfl, rfl⟩))
                go_ret
                exact ⟨ret_bool (HV.out.2 p q hlt hltq HQ.out).symm, HE0.out.trans HE9.out⟩
            | true =>
              cases h3 : bit sp q with
              | false =>
                have HQ : Hid (snpQ g p q = false) := by show _ = _; unfold snpQ; rw [htp, htq, h1, h2, h3]; rfl
                have HLQ : Hid (∀ z, z < q + 1 → snpQ g p z = false) := fun z hz => by
                  rcases Nat.lt_succ_iff_lt_or_eq.1 hz with h | rfl
                  · exact HL1.out z h
                  · exact HQ.out
                rw [h1] at HIAB
                rw [h2] at HIBA
                rw [h3] at HB
                clear h1 h2 h3 htp htq
                go_wp2_with (first | (go_at_call 60; refine (HB.out _).mono ?_; rintro e w' ⟨rfl, rfl⟩) | (go_at_call 62; (first | with_reducible refine (HIAB.out _).mono ?_ | with_reducible refine (HIBA.out _).mono ?_); rintro e w' ⟨rfl, rfl⟩))
                go_roundw
                case rel => first
                  | exact ⟨q + 1, by omega, by go_num, HE9, HLQ⟩
                  | ((repeat apply Exists.intro); exact ⟨⟨q + 1, by omega, by go_num, HE9, HLQ⟩, rfl⟩)
                case measure => simp [intOf]; omega
              | true =>
                have HQ : Hid (snpQ g p q = false) := by show _ = _; unfold snpQ; rw [htp, htq, h1, h2, h3]; rfl
                have HLQ : Hid (∀ z, z < q + 1 → snpQ g p z = false) := fun z hz => by
                  rcases Nat.lt_succ_iff_lt_or_eq.1 hz with h | rfl
                  · exact HL1.out z h
                  · exact HQ.out
                rw [h1] at HIAB
                rw [h2] at HIBA
                rw [h3] at HB
                clear h1 h2 h3 htp htq
                go_wp2_with (first | (go_at_call 60; refine (HB.out _).mono ?_; rintro e w' ⟨rfl, rfl⟩) | (go_at_call 62; (first | with_reducible refine (HIAB.out _).mono ?_ | with_reducible refine (HIBA.out _).mono ?_); rintro e w' ⟨rfl, rfl⟩))
                go_roundw
                case rel => first
                  | exact ⟨q + 1, by omega, by go_num, HE9, HLQ⟩
                  | ((repeat apply Exists.intro); exact ⟨⟨q + 1, by omega, by go_num, HE9, HLQ⟩, rfl⟩)
                case measure => simp [intOf]; omega
        · obtain rfl : q = n := by omega
          have HLP : Hid (∀ z, z < p + 1 → ∀ y, y < q → snpQ g z y = false) := fun z hz => by
            rcases Nat.lt_succ_iff_lt_or_eq.1 hz with h | rfl
            · exact HL.out z h
            · exact HL1.out
          clear hGB0 hgn
          go_wp2_with fail
          go_roundw
          case rel => first
            | exact ⟨p + 1, by omega, by go_num, HE1, HLP⟩
            | ((repeat apply Exists.intro); exact ⟨⟨p + 1, by omega, by go_num, HE1, HLP⟩, rfl⟩)
          case measure => simp [intOf]; omega
    · obtain rfl : p = n := by omega
      have HF := hide (HV.out.1 HL.out)
      clear HV
      go_wp2_with fail
      go_ret
      exact ⟨ret_bool HF.out.symm, HE0.out.trans HE.out⟩
end Go.Proofs.Ytdlhnpogddpmpaa

namespace Go.Proofs.Ytdlhnpogddpmpaa
open Go.RowKit
attribute [local go_sem] Oper.semAt_some

def mvG (g : Gr) : Mv := ⟨⟨g, 0⟩, 0⟩
theorem results_adv0 {fn : Func} {a : Tmp} (h : fn.results = #[.cell a 26]) {tmps : Array Value} {w : World} {p : Nat} {n : Int} {sv : Value} (ha : tmps.getD a undef = .pointer (some ⟨p, 0, none⟩))
    (hp : w.heap[p]? = some (.cells #[.int .i64 n, sv] 26 (0, 0))) : (results fn tmps).run Try.prog w = .ok (.agg #[.int .i64 n, sv]) w := by
  rw [Array.getD_eq_getD_getElem?] at ha
  have p0 : w.cell? ⟨p, 0, none⟩ = some (.int .i64 n) := by rw [cell_of_row _ _ _ _ _ _ hp]; rfl
  have p1 : w.cell? ⟨p, 1, none⟩ = some sv := by rw [cell_of_row _ _ _ _ _ _ hp]; rfl
  simp [results, h, ha, go_sem, p0, p1]
set_option maxRecDepth 16000 in
set_option maxHeartbeats 4000000 in
theorem rone17_any {n : Int} {L : List Gr} {v : Value} {base : Nat} (w : World) (hL : Own Gr.cells 6 w base 38 v L) (hlen : L.length ≤ 33554432) :
    Calls Try.prog 41 #[.int .i64 n, v] w fun e w' => ∃ u, e = .returned u ∧ AdvC w.heap.size w' u ⟨n, [L.map mvG]⟩ ∧ Ext w w' := by
  obtain ⟨w1, hw1⟩ : ∃ w1, w.alloc (.cells #[.int .i64 0, .slice none 0 0] 26) = w1 := ⟨_, rfl⟩
  have HE0 : Hid (Ext w w1) := by show Ext _ _; rw [← hw1]; exact (Ext.refl w).alloc _
  have HP : Hid (w1.heap[w.heap.size]? = some (.cells #[.int .i64 0, .slice none 0 0] 26 (0, 0))) := by show _ = _; rw [← hw1]; exact heap_alloc_new w _
  have HW := hide hw1
  clear hw1
  obtain ⟨lq, lc, rfl⟩ := hL.sl
  have HL := hide (hL.ext HE0.out)
  clear hL
  obtain ⟨res, hres⟩ : ∃ res, L.map mvG = res := ⟨_, rfl⟩
  rw [hres]
  obtain ⟨nx, hnx⟩ : ∃ nx : Nat → List Mv, nx = fun i => (L.take i).map mvG := ⟨_, rfl⟩
  have HN0 : Hid (nx 0 = []) := by rw [hnx]; rfl
  have HNS : Hid (∀ i g, L[i]? = some g → nx (i + 1) = nx i ++ [mvG g]) := fun i g h => by rw [hnx]; show (L.take (i + 1)).map mvG = (L.take i).map mvG ++ [mvG g]; rw [List.take_add_one, h, Option.toList_some, List.map_append]; rfl
  have HNA : Hid (nx L.length = res) := by show _ = _; rw [← hres, hnx]; show (L.take L.length).map mvG = _; rw [List.take_length]
  have HNL : Hid (∀ i, (nx i).length ≤ L.length) := fun i => by rw [hnx]; show ((L.take i).map mvG).length ≤ _; rw [List.length_map, List.length_take]; omega
  clear hnx hres
  generalize hln : L.length = ln at HL hlen HNA HNL ⊢
  have HLN := hide hln
  have HLB := hide hlen
  clear hln hlen
  go_enter Try.func41, Try.ntmps41
  go_wp2_with fail
  rw [HW.out]
  go_loopw [5, 6] (fun uo vi V => ∃ (i : Nat) (q : Option Addr) (c : Nat), i ≤ ln ∧ vi = .int .i64 i ∧ uo = .slice q (nx i).length c ∧ Hid (Ext w1 V) ∧ Hid (Own Mv.cells 8 V w1.heap.size 42 uo (nx i))) (fun _ vi _ => ln - (intOf vi).toNat)
  case atStart => exact ⟨0, none, 0, Nat.zero_le _, rfl, by rw [HN0.out]; rfl, Ext.refl _, by rw [HN0.out]; exact Own.nil _ _ _ (fun _ => rfl)⟩
  case round =>
    obtain ⟨i, oq, oc, hi, rfl, rfl, HE, HO⟩ := hrel
    by_cases hlt : i < ln
    · obtain ⟨g, hg⟩ : ∃ g, L[i]? = some g := ⟨_, List.getElem?_eq_getElem (by rw [HLN.out]; exact hlt)⟩
      obtain ⟨gl, rfl⟩ : ∃ gl, lq = some ⟨gl, 0, none⟩ := own_addr HL.out (i := i) (by rw [HLN.out]; exact hlt)
      obtain ⟨g0, g1, g2, g3, g4, g5, gz⟩ := own_gr (HL.out.ext HE.out) hg
      have HN1 := hide (HNS.out i g hg)
      have hli : (i : Int) < (ln : Int) := by omega
      have HNLI := hide (HNL.out i)
      generalize hm : (nx i).length = m at HO HNLI ⊢
      have HM := hide hm
      have hlnb : ln ≤ 33554432 := HLB.out
      have HNEW : Hid (∀ t u, (Mv.cells (mvG g))[t]? = some u → (wr.alloc (.cells #[.int .i64 g.n, .int .i64 g.h0, .int .i64 g.h1, .int .i64 g.h2, .int .i64 g.h3, .int .i64 g.h4, .int .i64 0, .int .i64 0] 42)).cell? ⟨wr.heap.size, t, none⟩ = some u) := fun j u h => by
        rw [cell_of_row _ _ _ _ _ _ (heap_alloc_new wr _), ← h, ← List.getElem?_toArray]; rfl
      clear hg hm
      go_wp2_with (at_builtin; refine wpList_append1 rfl (.tmp 13) (.tmp 20) 35 rfl w1.heap.size 42 (Mv.v default) 8 64 Try.underlying35 move_info17 rfl (by decide) _ (nx i) (mvG g) wr.heap.size rfl (HO.out.alloc _) rfl HNEW.out (mv_one17 _) (by have h1 := HNLI.out; rw [HM.out]; omega) (by decide) (by simp only [World.size_alloc]; have := HE.out.size; omega) ?_; intro v' W6 hown' hg6 hf6; rw [HM.out] at hf6; obtain ⟨g6, c6, rfl, hgf6⟩ := hf6; have HOW := hide hown'; have HGW := hide hg6; clear hown' hg6 hgf6 g0 g1 g2 g3 g4 g5 gz)
      have HE6 : Hid (Ext w1 W6) := (HE.out.alloc _).grown HGW.out (fun k hk => HO.out.block_ge k hk)
      have HLE : Hid (m + 1 = (nx (i + 1)).length) := by
        show _ = _
        rw [HN1.out, ← HM.out]; simp
      have HOW6 : Hid (Own Mv.cells 8 W6 w1.heap.size 42 (.slice (some ⟨g6, 0, none⟩) (m + 1) c6) (nx (i + 1))) := by show Own _ _ _ _ _ _ _; rw [HN1.out]; exact HOW.out
      go_roundw
      case rel => first
        | exact ⟨i + 1, some ⟨g6, 0, none⟩, c6, by omega, by go_num, by rw [← HLE.out], HE6, HOW6.out⟩
        | ((repeat apply Exists.intro); exact ⟨⟨i + 1, some ⟨g6, 0, none⟩, c6, by omega, by go_num, by rw [← HLE.out], HE6, HOW6.out⟩, rfl⟩)
      case measure => simp [intOf]; omega
    · have hil : i = ln := by omega
      subst hil
      have HFIN : Hid (Own Mv.cells 8 wr w1.heap.size 42 (.slice oq (nx i).length oc) res) := by show Own _ _ _ _ _ _ _; rw [← HNA.out]; exact HO.out
      have HRL : Hid (res.length ≤ 33554432) := by show _ ≤ _; rw [← HNA.out]; exact Nat.le_trans (HNL.out i) HLB.out
      have hp := (HE.out.b.block _ (lt_of_heap HP.out)).trans HP.out
      have a0 : wr.cell? ⟨w.heap.size, 0, none⟩ = some (.int .i64 0) := cells_at hp 0
      have a1 : wr.cell? ⟨w.heap.size, 1, none⟩ = some (.slice none 0 0) := cells_at hp 1
      have af : wr.frozen? ⟨w.heap.size, 0, none⟩ = false := frozen_of hp
      have af1 : wr.frozen? ⟨w.heap.size, 1, none⟩ = false := frozen_of hp
      have az := lt_of_heap hp
      have HP3 := hide hp
      generalize (nx i).length = m at HFIN ⊢
      clear hp
      go_wp2_with fail
      have hwz : w.heap.size ≤ wr.heap.size := (HE0.out.trans HE.out).size
      have hw1 : w.heap.size < w1.heap.size := lt_of_heap HP.out
      have hne : ∀ k, (Value.slice oq m oc).ownBlock = some k → k ≠ w.heap.size := fun k hk => by have := HFIN.out.block_ge k hk; omega
      have hown := ((HFIN.out.setNe (a := ⟨w.heap.size, 0, none⟩) hne (.int .i64 n)).setNe (a := ⟨w.heap.size, 1, none⟩) hne (.slice (some ⟨wr.heap.size, 0, none⟩) 1 1)).ext ((Ext.refl _).alloc (.cells #[.slice oq m oc] 35))
      have hrow := hown.rowE (by have := HRL.out; omega)
      have hst := heap_alloc_new ((wr.setCell ⟨w.heap.size, 0, none⟩ (.int .i64 n)).setCell ⟨w.heap.size, 1, none⟩ (.slice (some ⟨wr.heap.size, 0, none⟩) 1 1)) (.cells #[.slice oq m oc] 35)
      rw [World.size_setCell, World.size_setCell] at hst
      refine bodyPost_ret (results_adv0 rfl rfl ((Below.heap_alloc _ _ _ (by simpa using az)).trans (heap_set (heap_set HP3.out _) _))) rfl ⟨_, rfl, ⟨_, rfl, ⟨[.slice oq m oc], rfl, ⟨fun _ => rfl, rfl, .inr ⟨wr.heap.size, 1, _, rfl, hwz, hst, Nat.le_refl _, by unfold maxLen; omega, rfl, rfl⟩⟩, ?_⟩, by simp⟩, (((HE0.out.trans HE.out).setCell (p := ⟨w.heap.size, 0, none⟩) (Nat.le_refl _) _).setCell (p := ⟨w.heap.size, 1, none⟩) (Nat.le_refl _) _).alloc _⟩
      intro k x xs hx hxs
      obtain rfl : k = 0 := by
        have := (List.getElem?_eq_some_iff.1 hx).1
        simpa using this
      simp only [List.getElem?_cons_zero, Option.some.injEq] at hx hxs
      subst hx hxs
      exact hrow
def refSA (n : Int) : Adv × Int := if n < 1 ∨ 5 < n then (⟨0, []⟩, 2) else (⟨n, [((everyB n.toNat 6).filter (snapB n.toNat)).map mvG]⟩, 0)
set_option maxRecDepth 16000 in
set_option maxHeartbeats 4000000 in
theorem rsnapshot_any (n : Int) (w : World) : Calls Try.prog 15 #[.int .i64 n] w (RetF (refSA n) w) := by
  have HNU := hide (fun W => rnum17_any n 0 0 W)
  obtain ⟨w2, hw2⟩ : ∃ w2, w.alloc (.cells #[.int .i64 0, .slice none 0 0] 26) = w2 := ⟨_, rfl⟩
  have HE : Hid (Ext w w2) := by show Ext _ _; rw [← hw2]; exact (Ext.refl w).alloc _
  have HP : Hid (w2.heap[w.heap.size]? = some (.cells #[.int .i64 0, .slice none 0 0] 26 (0, 0))) := by show _ = _; rw [← hw2]; exact heap_alloc_new w _
  have HW := hide hw2
  clear hw2
  by_cases hb : n < 1 ∨ 5 < n
  · rw [show numE n 0 0 = 2 from if_pos (by omega)] at HNU
    rw [show refSA n = (⟨0, []⟩, 2) from if_pos hb]
    clear hb
    go_enter Try.func15, Try.ntmps15
    go_wp2_with (go_at_call 35; refine (HNU.out _).mono ?_; rintro e w3 ⟨rfl, rfl⟩)
    rw [HW.out]
    exact bodyPost_ret (results_adv1 rfl rfl rfl HP.out) rfl ⟨_, rfl, AdvC.zero _ _, HE.out⟩
  · obtain ⟨m, rfl⟩ : ∃ m : Nat, n = m := ⟨n.toNat, by omega⟩
    rw [show numE (m : Int) 0 0 = 0 from if_neg (by omega)] at HNU
    have hm5 : m ≤ 5 := by omega
    have HEV := hide (fun W => revery_any (op := 6) (n := m) (.inr rfl) hm5 W)
    have HSN := hide (fun g (hg : GS m g) W => rsnap17_any hm5 hg W)
    obtain ⟨hlen, hgs⟩ := everyB_ok hm5 6
    have HGS := hide hgs
    have HLB := hide hlen
    rw [show refSA (m : Int) = (⟨m, [((everyB m 6).filter (snapB m)).map mvG]⟩, 0) by unfold refSA; rw [if_neg hb, Int.toNat_natCast]]
    generalize everyB m 6 = L at HEV HGS HLB ⊢
    obtain ⟨fl, hfl⟩ : ∃ fl, snapB m = fl := ⟨_, rfl⟩
    rw [hfl] at HSN ⊢
    obtain ⟨res, hres⟩ : ∃ res, L.filter fl = res := ⟨_, rfl⟩
    rw [hres]
    obtain ⟨nx, hnx⟩ : ∃ nx : Nat → List Gr, nx = fun i => (L.take i).filter fl := ⟨_, rfl⟩
    have HN0 : Hid (nx 0 = []) := by rw [hnx]; rfl
    have HNY : Hid (∀ i g, L[i]? = some g → fl g = true → nx (i + 1) = nx i ++ [g]) := fun i g h h2 => by rw [hnx]; show (L.take (i + 1)).filter fl = (L.take i).filter fl ++ [g]; rw [List.take_add_one, h, Option.toList_some, List.filter_append]; simp [h2]
    have HNN : Hid (∀ i g, L[i]? = some g → fl g = false → nx (i + 1) = nx i) := fun i g h h2 => by rw [hnx]; show (L.take (i + 1)).filter fl = (L.take i).filter fl; rw [List.take_add_one, h, Option.toList_some, List.filter_append]; simp [h2]
    have HNA : Hid (nx L.length = res) := by show _ = _; rw [← hres, hnx]; show (L.take L.length).filter fl = _; rw [List.take_length]
    have HNL : Hid (∀ i, (nx i).length ≤ L.length) := fun i => by rw [hnx]; exact Nat.le_trans (List.length_filter_le _ _) (by rw [List.length_take]; omega)
    clear hfl hnx hres hlen hgs hb
    obtain ⟨fin, hfin⟩ : ∃ fin : Adv, (⟨(m : Int), [res.map mvG]⟩ : Adv) = fin := ⟨_, rfl⟩
    rw [hfin]
    have HON := hide (fun (W : World) (v : Value) (base : Nat) (h : Own Gr.cells 6 W base 38 v res) (hl : res.length ≤ 33554432) => rone17_any (n := (m : Int)) W h hl)
    rw [hfin] at HON
    clear hfin
    go_enter Try.func15, Try.ntmps15
    go_wp2_with (go_at_call 35; refine (HNU.out _).mono ?_; rintro e w3 ⟨rfl, rfl⟩)
    rw [HW.out]
    refine (HEV.out _).mono ?_
    rintro e V0 ⟨v, rfl, hL, hE0⟩
    obtain ⟨lq, lc, rfl⟩ := hL.sl
    have HE1 := hide hE0
    have HL := hide hL
    clear hL hE0
    generalize hln : L.length = ln at HL HLB HNA HNL ⊢
    have HLN := hide hln
    clear hln
    go_wp2_with fail
    go_loopw [5, 7] (fun uo vi V => ∃ (i : Nat) (q : Option Addr) (c : Nat), i ≤ ln ∧ vi = .int .i64 i ∧ uo = .slice q (nx i).length c ∧ Hid (Ext V0 V) ∧ Hid (Own Gr.cells 6 V V0.heap.size 38 uo (nx i))) (fun _ vi _ => ln - (intOf vi).toNat)
    case atStart => exact ⟨0, none, 0, Nat.zero_le _, rfl, by rw [HN0.out]; rfl, Ext.refl _, by rw [HN0.out]; exact Own.nil _ _ _ (fun _ => rfl)⟩
    case round =>
      obtain ⟨i, oq, oc, hi, rfl, rfl, HX, HO⟩ := hrel
      by_cases hlt : i < ln
      · obtain ⟨g, hg⟩ : ∃ g, L[i]? = some g := ⟨_, List.getElem?_eq_getElem (by rw [HLN.out]; exact hlt)⟩
        obtain ⟨gl, rfl⟩ : ∃ gl, lq = some ⟨gl, 0, none⟩ := own_addr HL.out (i := i) (by rw [HLN.out]; exact hlt)
        obtain ⟨g0, g1, g2, g3, g4, g5, gz⟩ := own_gr (HL.out.ext HX.out) hg
        have HG := hide hg
        have HSG := hide (fun W => HSN.out g (HGS.out g (List.mem_of_getElem? hg)) W)
        have hli : (i : Int) < (ln : Int) := by omega
        have HNLI := hide (HNL.out i)
        generalize hm : (nx i).length = k at HO HNLI ⊢
        have HM := hide hm
        have hlnb : ln ≤ 33554432 := HLB.out
        clear hg hm
        go_wp2_with fail
        refine (HSG.out _).mono ?_
        rintro e w2 ⟨rfl, hE2⟩
        have HX2 := hide (HX.out.trans hE2)
        have HO2 := hide (HO.out.ext hE2)
        clear hE2 g0 g1 g2 g3 g4 g5 gz
        cases hf : fl g with
        | false =>
          have HN1 : Hid (nx (i + 1) = nx i) := HNN.out i g HG.out hf
          clear hf
          go_wp2_with fail
          go_roundw
          case rel => first
            | exact ⟨i + 1, oq, oc, by omega, by go_num, by rw [HN1.out, HM.out], HX2, by rw [HN1.out]; exact HO2.out⟩
            | ((repeat apply Exists.intro); exact ⟨⟨i + 1, oq, oc, by omega, by go_num, by rw [HN1.out, HM.out], HX2, by rw [HN1.out]; exact HO2.out⟩, rfl⟩)
          case measure => simp [intOf]; omega
        | true =>
          have HN1 : Hid (nx (i + 1) = nx i ++ [g]) := HNY.out i g HG.out hf
          clear hf
          obtain ⟨g0, g1, g2, g3, g4, g5, gz⟩ := own_gr (HL.out.ext HX2.out) HG.out
          have HNEW := hide (gr_new17 w2 g)
          go_wp2_with (at_builtin; refine wpList_append1 rfl (.tmp 27) (.tmp 32) 77 rfl V0.heap.size 38 (gzn 0).v 6 48 Try.underlying77 gr_info17 rfl (by decide) _ (nx i) g w2.heap.size rfl (HO2.out.alloc _) rfl HNEW.out (gr_one17 g) (by have h1 := HNLI.out; rw [HM.out]; omega) (by decide) (by simp only [World.size_alloc]; have := HX2.out.size; omega) ?_; intro v' W6 hown' hg6 hf6; rw [HM.out] at hf6; obtain ⟨g6, c6, rfl, hgf6⟩ := hf6; have HOW := hide hown'; have HGW := hide hg6; clear hown' hg6 hgf6 g0 g1 g2 g3 g4 g5 gz)
          have HX6 : Hid (Ext V0 W6) := (HX2.out.alloc _).grown HGW.out (fun k hk => HO2.out.block_ge k hk)
          have HLE : Hid (k + 1 = (nx (i + 1)).length) := by
            show _ = _
            rw [HN1.out, ← HM.out]; simp
          have HOW6 : Hid (Own Gr.cells 6 W6 V0.heap.size 38 (.slice (some ⟨g6, 0, none⟩) (k + 1) c6) (nx (i + 1))) := by show Own _ _ _ _ _ _ _; rw [HN1.out]; exact HOW.out
          go_roundw
          case rel => first
            | exact ⟨i + 1, some ⟨g6, 0, none⟩, c6, by omega, by go_num, by rw [← HLE.out], HX6, HOW6.out⟩
            | ((repeat apply Exists.intro); exact ⟨⟨i + 1, some ⟨g6, 0, none⟩, c6, by omega, by go_num, by rw [← HLE.out], HX6, HOW6.out⟩, rfl⟩)
          case measure => simp [intOf]; omega
      · have hil : i = ln := by omega
        subst hil
        have HFIN : Hid (Own Gr.cells 6 wr V0.heap.size 38 (.slice oq (nx i).length oc) res) := by show Own _ _ _ _ _ _ _; rw [← HNA.out]; exact HO.out
        have HRL : Hid (res.length ≤ 33554432) := by show _ ≤ _; rw [← HNA.out]; exact Nat.le_trans (HNL.out i) HLB.out
        have HEE := hide (HE1.out.trans HX.out)
        generalize (nx i).length = k at HFIN ⊢
        go_wp2_with fail
        refine (HON.out _ _ _ HFIN.out HRL.out).mono ?_
        rintro e w3 ⟨v, rfl, hv, hE43⟩
        have hE3 : Ext w2 w3 := HEE.out.trans hE43
        have hv := hv.mono HEE.out.size
        obtain ⟨sv, rfl, hco, -⟩ := id hv
        obtain ⟨sq, sc, rfl⟩ := hco.sl
        clear hco
        have hp3 := (hE3.b.block _ (lt_of_heap HP.out)).trans HP.out
        have a0 : w3.cell? ⟨w.heap.size, 0, none⟩ = some (.int .i64 0) := cells_at hp3 0
        have a1 : w3.cell? ⟨w.heap.size, 1, none⟩ = some (.slice none 0 0) := cells_at hp3 1
        have af : w3.frozen? ⟨w.heap.size, 0, none⟩ = false := frozen_of hp3
        have af1 : w3.frozen? ⟨w.heap.size, 1, none⟩ = false := frozen_of hp3
        have az := lt_of_heap hp3
        have HP3 := hide hp3
        have HV := hide hv
        have HE3 := hide (HE.out.trans hE3)
        have HZ2 : Hid (w.heap.size ≤ w2.heap.size) := HE.out.size
        clear hp3 hv hE3
        go_wp2_with fail
        exact bodyPost_ret (results_adv1 rfl rfl rfl (heap_set (heap_set HP3.out _) _)) rfl ⟨_, rfl, (HV.out.stored2 HP3.out).mono HZ2.out, (HE3.out.setCell (p := ⟨w.heap.size, 0, none⟩) (Nat.le_refl _) _).setCell (p := ⟨w.heap.size, 1, none⟩) (Nat.le_refl _) _⟩
end Go.Proofs.Ytdlhnpogddpmpaa
