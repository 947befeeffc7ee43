/-
  The program's Simulation, walked.
  Conditions: as each theorem states.
-/
import Derived.Test.YtmkmgimmlohamaaIncSim
namespace Go.Proofs.Ytmkmgimmlohamaa
open Go.RowKit
attribute [local go_sem] Oper.semAt_some

theorem pr_info : (Try.prog.info? 45).map (fun i => (i.zero, i.size, i.bytes)) = some (some (.agg #[.int .i64 0, .int .i64 0]), 2, 16) := by kernel_rfl
theorem holds_own2 {w : World} {base g n c : Nat} {e : TypeId} {l : List (Int × Int)} (h : Own pcells 2 w base e (.slice (some ⟨g, 0, none⟩) n c) l) : Go.Sort.HoldsK pcells 2 w g 0 l.toArray := by
  intro j hj
  have hj : j < l.length * 2 := by simpa using hj
  obtain ⟨_, hl, h1 | ⟨g', cap, cur, h1, h2, h3, h4, h5, h6, h7⟩⟩ := h
  · exact absurd h1.1 (by intro k; cases k)
  injection h1 with h8 h9 h10
  injection h8 with h8
  injection h8 with h8
  subst h8
  refine ⟨?_, frozen_of h3⟩
  rw [Nat.zero_add, cell_of_row _ _ _ _ _ _ h3, Go.Sort.get_flatK pcells 2 _ j (by simpa using hj)]
  have hi : j / 2 < l.length := by omega
  have e1 : l.toArray[j / 2]! = l[j / 2] := by rw [getElem!_pos l.toArray _ (by simpa using hi), List.getElem_toArray]
  have e2 : (l.flatMap pcells)[j / 2 * 2 + j % 2]? = (pcells l[j / 2])[j % 2]? := flat_get (enc := pcells) (size := 2) (fun _ => rfl) l (j / 2) (j % 2) l[j / 2] (List.getElem?_eq_getElem hi) (by omega)
  rw [show j / 2 * 2 + j % 2 = j by omega, ← h7, List.getElem?_take, if_pos (by omega)] at e2
  rw [e1, ← Array.getElem?_toList, e2, getElem!_def]
  have : j % 2 < (pcells l[j / 2]).length := by show j % 2 < 2; omega
  rw [List.getElem?_eq_getElem this]
  rfl
theorem pr_new_cells (w : World) (x : Int × Int) : ∀ j u, (pcells x)[j]? = some u → (w.alloc (.cells #[.int .i64 x.1, .int .i64 x.2] 45)).cell? ⟨w.heap.size, j, none⟩ = some u := fun j u h => by
  rw [cell_of_row _ _ _ _ _ _ (heap_alloc_new w _)]
  rw [← h, ← List.getElem?_toArray]
  rfl
open Go.Sort in
theorem ext_sorted {B w : World} (h : Ext B w) {b : Nat} (hb : B.heap.size ≤ b) (n : Nat) (d : Array (Int × Int)) (os : Array Obj) : Ext B (sortWorldK pcells 2 w b 0 n d os) := by
  have h1 : Ext B (putRowK pcells 2 (Go.Sort.ahead w n) b 0 d) := by
    refine ⟨⟨h.b.os, h.b.tape, h.b.output, ?_, fun k hk => ?_⟩⟩
    · have := h.b.size
      simp [putRowK, putRow, mapBlock, Go.Sort.ahead]
      exact this
    · rw [← h.b.block k hk]
      simp only [putRowK, putRow, mapBlock, Go.Sort.ahead, Array.getElem?_modify]
      rw [if_neg (by omega)]
  unfold sortWorldK
  refine ⟨⟨h1.b.os, h1.b.tape, h1.b.output, ?_, fun k hk => ?_⟩⟩
  · have := h1.b.size
    simp [grow]
    omega
  · rw [← h1.b.block k hk]
    simp only [grow]
    rw [Array.getElem?_append_left (by have := h1.b.size; omega)]
set_option maxRecDepth 16000 in
set_option maxHeartbeats 4000000 in
theorem psim_any (A B : Adv) (u v : Value) (w : World) (hA : AdvRep w u A) (hB : AdvRep w v B) (hmA : movesN A ≤ 4611686018427387904) (hmB : movesN B ≤ 4611686018427387904) :
    Calls Try.prog 14 #[u, v] w (RetSm A B w) := by
  have HA := hide hA
  have HB := hide hB
  obtain ⟨p, c, rfl, -⟩ := hA.all_
  obtain ⟨q, d, rfl, -⟩ := hB.all_
  clear hA hB
  have HN := hide (TwoBox.new A B p c q d w)
  have HE1 := hide (((Ext.refl w).alloc (.cells #[.int .i64 A.n, .slice p A.L c] 24)).alloc (.cells #[.int .i64 B.n, .slice q B.L d] 24))
  obtain ⟨W1, hW1⟩ : ∃ W1, (w.alloc (.cells #[.int .i64 A.n, .slice p A.L c] 24)).alloc (.cells #[.int .i64 B.n, .slice q B.L d] 24) = W1 := ⟨_, rfl⟩
  rw [hW1] at HN HE1
  have HW1 := hide hW1
  clear hW1
  go_enter Try.func14, Try.ntmps14
  go_wp2_with fail
  rw [HW1.out]
  refine (both_any A B _ _ W1 (HA.out.ext HE1.out) (HB.out.ext HE1.out) hmA hmB).mono ?_
  rintro e w2 ⟨rfl, hE2⟩
  have HN2 := hide (HN.out.ext hE2)
  have HE2 := hide (HE1.out.trans hE2)
  clear hE2 HN HE1 HW1
  by_cases hb : bothI A B = 0
  case neg =>
    have hd : (bothI A B != 0) = true := by simp [hb]
    have HR : Hid (RetSm A B w (.returned (.tuple #[.slice none 0 0, .bool false, .int .i64 (bothI A B)])) w2) := ⟨_, _, rfl, HE2.out, .inl ⟨hb, rfl, rfl⟩⟩
    clear hb
    generalize bothI A B = res at hd HR ⊢
    go_wp2_with fail
    go_ret3
    exact HR.out
  case pos =>
  have HZ := hide hb
  rw [hb]
  clear hb
  obtain ⟨z0, a0, a1, z1, b0, b1⟩ := HN2.out.cells
  have HKA := hide (bothI_zero HZ.out).1
  have HKB := hide (bothI_zero HZ.out).2.1
  go_wp2_with fail
  refine (search_lack A B _ _ w2 (HA.out.ext HE2.out) (HB.out.ext HE2.out) HKA.out HKB.out).mono ?_
  rintro e w3 ⟨vs, uv, x, rfl, hE3, hrow, (⟨word, hword, hne, hmk, hle⟩ | ⟨rfl, ws, hlen, hfull⟩)⟩
  · have HR : Hid (RetSm A B w (.returned (.tuple #[.slice none 0 0, .bool false, .int .i64 0])) w3) := ⟨_, _, by rw [HZ.out], HE2.out.trans hE3, .inr (.inl ⟨HZ.out, rfl, rfl, word, (markI HKA.out HKB.out word).1 hmk⟩)⟩
    obtain ⟨b, o, k, rfl⟩ := row_ne hword hne
    have hnil : ∀ V, (binOp BinOp.neq 27 (.slice (some ⟨b, o, none⟩) word.length k) (.slice none 0 0)).run Try.prog V = .ok (.bool true) V := fun V => by kernel_rfl
    clear hword hne hmk hle hE3 hrow z0 a0 a1 z1 b0 b1
    go_wp2_with fail
    go_ret3
    exact HR.out
  have hnil : ∀ V, (binOp BinOp.neq 27 (.slice none 0 0) (.slice none 0 0)).run Try.prog V = .ok (.bool false) V := fun V => by kernel_rfl
  have hpos := full_pos hlen hfull
  have HFL := hide hfull
  have HLN := hide hlen
  obtain ⟨pv, cv, rfl, hcv, hcv2, hat⟩ := hrow.vs_all
  obtain ⟨bv, ov, rfl, hbv, hat⟩ := hat hpos
  have HAT := hide (fun (V : World) (hV : Ext w3 V) (i : Nat) (hi : i < vs.length) j u h => (hV.cell (p := ⟨bv, ov + i * 10 + j, none⟩) hbv).trans (hat i hi j u h))
  have HE3 := hide (HE2.out.trans hE3)
  have HPOS := hide hpos
  have hln : vs.length ≤ 65536 := full_few HKA.out HKB.out hlen hfull
  clear hfull hlen hat hrow hE3 z0 a0 a1 z1 b0 b1 HE2 HN2 hpos
  go_wp2_with fail
  go_loopw [10, 29] (fun x y wr => ∃ i : Nat, i ≤ vs.length ∧ y = .int .i64 i ∧ Hid (Own pcells 2 wr w3.heap.size 45 x ((simL vs).take i)) ∧ Hid (Ext w3 wr)) (fun _ y _ => vs.length - (intOf y).toNat)
  case atStart => exact ⟨0, by omega, rfl, Own.nil _ _ _ (fun _ => rfl), Ext.refl _⟩
  case round =>
    obtain ⟨i, hi, rfl, HO, HE⟩ := hrel
    by_cases hlt : i < vs.length
    · have hx := HAT.out wr HE.out i hlt
      have hbz : bv < wr.heap.size := Nat.lt_of_lt_of_le hbv HE.out.size
      have HTK : Hid ((simL vs).take (i + 1) = (simL vs).take i ++ [(((vs.getD i default).q : Int), ((vs.getD i default).p : Int))]) := by
        show _ = _
        unfold simL
        rw [List.take_add_one, List.getElem?_map, List.getElem?_eq_getElem hlt, List.getD_eq_getElem?_getD, List.getElem?_eq_getElem hlt]; rfl
      have HTL : Hid (((simL vs).take i).length = i) := by
        show _ = _
        unfold simL
        simp; omega
      generalize vs.getD i default = e at hx HTK
      have q0 := hx 0 _ rfl
      have q1 := hx 1 _ rfl
      have q2 := hx 2 _ rfl
      have q3 := hx 3 _ rfl
      have q4 := hx 4 _ rfl
      have q5 := hx 5 _ rfl
      have q6 := hx 6 _ rfl
      have q7 := hx 7 _ rfl
      have q8 := hx 8 _ rfl
      have q9 := hx 9 _ rfl
      rw [Nat.add_zero] at q0
      clear hx
      obtain ⟨ep, eq, ef, er⟩ := e
      dsimp only at q0 q1 q2 q3 q4 q5 q6 q7 q8 q9 HTK
      have hvb := heap_alloc_new wr (.cells #[.int .i64 ep, .int .i64 eq, .int .i64 ef, .int .i64 er.g.n, .int .i64 er.g.h0, .int .i64 er.g.h1, .int .i64 er.g.h2, .int .i64 er.g.h3, .int .i64 er.g.h4, .int .i64 er.f] 75)
      have HVB := hide hvb
      have HOU := hide (HO.out.ext ((Ext.refl wr).alloc (.cells #[.int .i64 ep, .int .i64 eq, .int .i64 ef, .int .i64 er.g.n, .int .i64 er.g.h0, .int .i64 er.g.h1, .int .i64 er.g.h2, .int .i64 er.g.h3, .int .i64 er.g.h4, .int .i64 er.f] 75)))
      have HEU := hide (HE.out.alloc (.cells #[.int .i64 ep, .int .i64 eq, .int .i64 ef, .int .i64 er.g.n, .int .i64 er.g.h0, .int .i64 er.g.h1, .int .i64 er.g.h2, .int .i64 er.g.h3, .int .i64 er.g.h4, .int .i64 er.f] 75))
      have hsu := World.size_alloc wr (.cells #[.int .i64 ep, .int .i64 eq, .int .i64 ef, .int .i64 er.g.n, .int .i64 er.g.h0, .int .i64 er.g.h1, .int .i64 er.g.h2, .int .i64 er.g.h3, .int .i64 er.g.h4, .int .i64 er.f] 75)
      have HSU := hide hsu
      clear hvb hsu
      go_upto_region 11 with fail
      generalize wr.alloc (.cells #[.int .i64 ep, .int .i64 eq, .int .i64 ef, .int .i64 er.g.n, .int .i64 er.g.h0, .int .i64 er.g.h1, .int .i64 er.g.h2, .int .i64 er.g.h3, .int .i64 er.g.h4, .int .i64 er.f] 75) = U at HVB HOU HEU HSU ⊢
      clear q0 q1 q2 q3 q4 q5 q6 q7 q8 q9
      have c0 := dcell HVB.out 0
      have c1 := dcell HVB.out 1
      have cz := lt_of_heap HVB.out
      go_wp2_with (at_builtin; refine wpList_append1 rfl (.tmp 33) (.tmp 41) 33 rfl w3.heap.size 45 (.agg #[.int .i64 0, .int .i64 0]) 2 16 Try.underlying33 pr_info rfl (by decide) _ ((simL vs).take i) ((eq : Int), (ep : Int)) U.heap.size rfl (HOU.out.alloc _) rfl (pr_new_cells U _) (pc_ones _) (by rw [HTL.out]; omega) (by decide) (by simp only [World.size_alloc]; have := HEU.out.size; omega) ?_; intro v' W6 hown' hg6 hform; have HG6 := hide hg6; have HO6 := hide hown'; clear hg6 hown' hform)
      have HE6 : Hid (Ext w3 W6) := (HEU.out.alloc _).grown HG6.out (fun k hk => HO.out.block_ge k hk)
      go_roundw
      case rel => exact ⟨i + 1, by omega, by go_num, by rw [HTK.out]; exact HO6.out, HE6.out⟩
      case measure => simp [intOf]; omega
    · obtain rfl : i = vs.length := by omega
      have htk : (simL vs).take vs.length = simL vs := by
        unfold simL
        rw [List.take_of_length_le (by simp)]
      have hsl : (simL vs).length = vs.length := by unfold simL; simp
      rw [htk] at HO
      rcases HO.out.form with ⟨_, h0⟩ | ⟨g, cg, rfl, hg1, hg2, hg3, hg4⟩
      · rw [h0] at hsl
        have := HPOS.out
        simp at hsl
        omega
      rw [hsl] at HO hg3 ⊢
      have HS := hide (srt_any g cg (simL vs) wr (by rw [hsl]; omega) hg2 (holds_own2 HO.out))
      rw [hsl] at HS
      have HSL := hide hsl
      have HG := hide (And.intro hg1 (And.intro hg2 (And.intro hg3 hg4)))
      clear htk hsl hg1 hg2 hg3 hg4 hi hlt
      go_wp2_with fail
      refine HS.out.mono ?_
      rintro e w5 ⟨rfl, d', n, os, hp, hs, hw5⟩
      have hfl := HFL.out
      rw [← HSL.out] at hp hs
      obtain ⟨hd1, hd2, hd3⟩ := sorted_pw (simL_diff HLN.out hfl) hp hs
      obtain ⟨hg1, hg2, hg3, hg4⟩ := HG.out
      have hE5 : Ext w w5 := by rw [hw5]; exact ext_sorted (HE3.out.trans HE.out) (by have := HE3.out.size; omega) n d' os
      have hh : Go.Sort.HoldsK pcells 2 w5 g 0 d'.toList.toArray := by
        rw [hw5, Array.toArray_toList]
        unfold Go.Proofs.sortWorldK
        refine Go.Sort.holdsK_grow _ _ _ _ _ _ _ ?_ (Go.Sort.holdsK_putRowK pcells 2 _ g 0 (simL vs).toArray d' (Go.Sort.holdsK_ahead pcells 2 wr n g 0 _ (holds_own2 HO.out)) (by simpa using hd1))
        simp [Go.Sort.putRowK, Go.Sort.putRow, Go.Sort.mapBlock, Go.Sort.ahead]; exact hg2
      have hgz : g < w5.heap.size := by rw [hw5]; simp [Go.Proofs.sortWorldK, Go.Sort.grow, Go.Sort.putRowK, Go.Sort.putRow, Go.Sort.mapBlock, Go.Sort.ahead]; omega
      have hdl : d'.toList.length = vs.length := by rw [Array.length_toList, hd1, HSL.out]
      have hrw := row_of_holds2 hh (c := cg) (by omega) (by omega) hg4 hgz
      rw [hdl] at hrw
      have HR : Hid (RetSm A B w (.returned (.tuple #[.slice (some ⟨g, 0, none⟩) vs.length cg, .bool true, .int .i64 0])) w5) :=
        ⟨_, _, by rw [HZ.out], hE5, .inr (.inr ⟨HZ.out, rfl, fun u hu => hfl.none_ u ((markI HKA.out HKB.out u).2 hu), d'.toList, hrw, by have := HPOS.out; omega, hd2, fun p => (hd3 p).trans (simL_reach HKA.out HKB.out HLN.out hfl p)⟩)⟩
      clear hw5 hp hs hfl hd1 hd2 hd3 hg1 hg2 hg3 hg4 hE5 hh hgz hdl hrw
      go_wp2_with fail
      go_ret3
      exact HR.out
end Go.Proofs.Ytmkmgimmlohamaa
