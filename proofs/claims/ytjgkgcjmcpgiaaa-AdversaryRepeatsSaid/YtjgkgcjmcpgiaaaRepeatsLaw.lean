/-
  'AdversaryRepeats' holds for every input: for an oblivious adversary any sequence of its first rounds is permitted, and the numbers of words are powers of their number.
  Conditions: none.
-/
import Derived.Test.YtjgkgcjmcpgiaaaGood
import Derived.Test.YtjgkgcjmcpgiaaaOpen
import Derived.ProofKit
namespace Go.Proofs.Ytjgkgcjmcpgiaaa
open Go.ChangeShapes Go.WideShapes Go.ChangeAt Go.RowKit Go.Deep
attribute [local go_sem] Oper.semAt_some

/-- A slice of bytes. -/
def URow (w : World) (v : Value) (l : List Nat) : Prop :=
  ∃ (p : Option Addr) (c : Nat), v = .slice p l.length c ∧ l.length ≤ c ∧ c ≤ 9223372036854775807 ∧ (∀ x ∈ l, x < 256) ∧
    (0 < l.length → ∃ b o, p = some ⟨b, o, none⟩ ∧ b < w.heap.size ∧ ∀ i, i < l.length → w.cell? ⟨b, o + i, none⟩ = some (.int .u8 ((l.getD i 0 : Nat) : Int)))
theorem cells_u8 : Try.prog.cellsOf 5 = 1 := by kernel_rfl
theorem open_u8s {H : Type} {enc : TypeId × Value → H} {w : World} {base : Nat} {spare : Nat → Bool} {held : Bool} {v : Value} {d : DataW H} {p : List MemPlace} (h : DataW.Trod enc Try.prog w base spare held 61 v d p) (hc : v.cells.toList = [v]) : ∃ l, URow w v l := by
  obtain ⟨n, h⟩ := h
  rw [hc] at h
  rcases open_slice Try.underlying61 h with ⟨h, -⟩ | ⟨a, len, cap, m, k, D, Pl, h, hb, hlc, hcm, hm, -, hi⟩
  · injection h with h
    subst h
    exact ⟨[], none, 0, rfl, Nat.le_refl _, by decide, by simp, fun h => absurd h (by simp)⟩
  · injection h with h
    subst h
    have hlm : len ≤ m := by rw [hm]; split <;> omega
    have hd : ∀ i, i < len → ∃ y : Nat, y < 256 ∧ w.cell? (a.add i) = some (.int .u8 (y : Int)) := fun i hil => by
      obtain ⟨cs', hc, htr⟩ := hi i (by omega)
      obtain ⟨y, rfl, -, hw⟩ := DataW.trod_int Try.underlying5 htr
      have hw2 : 0 ≤ y ∧ y ≤ 255 := by
        simp only [Lit.wf, Bool.and_eq_true, decide_eq_true_eq] at hw
        exact hw
      obtain ⟨y, rfl⟩ := Int.eq_ofNat_of_zero_le hw2.1
      rw [cells_u8, Nat.mul_one] at hc
      obtain ⟨_, _, hat⟩ := World.cells?_some hc
      have := hat 0 (by decide)
      refine ⟨y, by omega, ?_⟩
      have e0 : (a.add i).add 0 = a.add i := by simp [Addr.add]
      rw [e0] at this
      exact this
    obtain ⟨f, hf⟩ : ∃ f : Nat → Nat, ∀ i, i < len → f i < 256 ∧ w.cell? (a.add i) = some (.int .u8 (f i : Int)) := by
      refine ⟨fun i => if hh : i < len then Classical.choose (hd i hh) else 0, fun i hil => ?_⟩
      simp only [dif_pos hil]
      exact Classical.choose_spec (hd i hil)
    have hlr : ((List.range len).map f).length = len := by simp
    refine ⟨(List.range len).map f, some a, cap, by rw [hlr], by rw [hlr]; exact hlc, by unfold maxLen at hcm; exact hcm, fun x hx => ?_, fun hp => ?_⟩
    · obtain ⟨i, hi, rfl⟩ := List.mem_map.1 hx
      exact (hf i (List.mem_range.1 hi)).1
    · rw [hlr] at hp ⊢
      have hc0 := (hf 0 hp).2
      have ha0 : a.add 0 = a := by simp [Addr.add]
      rw [ha0] at hc0
      obtain ⟨hblk, hspot⟩ := cell_lt hc0
      refine ⟨a.block, a.off, ?_, hblk, fun i hil => ?_⟩
      · obtain ⟨b, o, s⟩ := a
        simp only at hspot
        rw [hspot]
      · have := (hf i hil).2
        rw [add_none a hspot] at this
        rw [this, getElem_getD' (by rw [hlr]; exact hil)]
        simp

theorem wrap_small {n : Nat} (h : n < 256) : IntKind.i64.wrap (n : Int) = n := by
  have e : (n : Int) % 18446744073709551616 = n := Int.emod_eq_of_lt (by omega) (by omega)
  show (if (true && decide ((n : Int) % 18446744073709551616 ≥ 9223372036854775808)) = true then (n : Int) % 18446744073709551616 - 18446744073709551616 else (n : Int) % 18446744073709551616) = n
  rw [e, decide_eq_false (by omega)]
  rfl
theorem wrap64_small {n : Nat} (h : n ≤ 64000 * 40) : wrap64 (n : Int) = n := by unfold wrap64; omega
theorem fromS_one (A : Adv) (s : Nat) : (fromS A 1 s).length = A.len s := by
  have : fromS A 1 s = (List.range (A.len s)).map fun i => [(A.mv s i).r] := by
    simp only [fromS, List.map_singleton]
    exact (List.map_eq_flatMap ..).symm
  rw [this, List.length_map, List.length_range]

set_option maxRecDepth 8000 in
set_option maxHeartbeats 4000000 in
theorem repeats_law (A : Adv) (v u : Value) (l : List Nat) (w : World) (hA : AdvRep w v A) (hu : URow w u l) :
    Calls Try.prog 7 #[v, u] w fun e w' => e = .returned (.bool true) ∧ Ext w w' := by
  have HF := hide (fun W k (hE : Ext w W) => good_any A v k W (hA.ext hE))
  have HC := hide (fun W k (hE : Ext w W) h => pcount_any A v k W (hA.ext hE) h)
  have HO := hide (fun W (hE : Ext w W) h => oblivious_any A v W (hA.ext hE) h)
  have HAL := hide (fun W u l (hE : Ext w W) (hu : Row Rd.cells 7 W u l) h => pallows_any A v u l W (hA.ext hE) hu h)
  obtain ⟨p, c, rfl, hc, hL, hat⟩ := hA.all_
  obtain ⟨q, cq, rfl, hlq, hcq, hul, huc⟩ := hu
  have HAT := hide hat
  have HUC := hide huc
  have HUL := hide hul
  clear hA hat huc hul
  have hE0 : Ext w (w.alloc (.cells #[.int .i64 A.n, .slice p A.L c] 24)) := (Ext.refl w).alloc _
  have HB := hide (fun w1 => abox2 w A.n (.slice p A.L c) (w1 := w1))
  by_cases h3 : 3 < l.length
  · have HF := hide (fun W hE => HF.out W 3 hE)
    have d3 : (3 : Int) < (l.length : Int) := by omega
    have d4 : decide ((3 : Int) < (l.length : Int)) = true := decide_eq_true d3
    cases hf : goodB A 3 with
    | false =>
      rw [hf] at HF
      clear hf HC HO HAL h3
      go_enter Try.func7, Try.ntmps7
      go_wp2_with fail
      refine (HF.out _ hE0).mono ?_
      rintro e w1 ⟨rfl, hE⟩
      go_wp2_with fail
      refine (awake_any w1).mono ?_
      rintro e w2 ⟨rfl, hE2⟩
      go_wp2_with fail
      go_ret
      exact ⟨rfl, (hE0.trans hE).trans hE2⟩
    | true =>
      rw [hf] at HF
      clear hf HC HO HAL h3
      go_enter Try.func7, Try.ntmps7
      go_wp2_with fail
      refine (HF.out _ hE0).mono ?_
      rintro e w1 ⟨rfl, hE⟩
      go_wp2_with fail
      refine (awake_any w1).mono ?_
      rintro e w2 ⟨rfl, hE2⟩
      go_wp2_with fail
      go_ret
      exact ⟨rfl, (hE0.trans hE).trans hE2⟩
  · have HF := hide (fun W hE => HF.out W (l.length : Int) hE)
    have d3 : ¬ (3 : Int) < (l.length : Int) := by omega
    have d4 : decide ((3 : Int) < (l.length : Int)) = false := decide_eq_false d3
    cases hf : goodB A (l.length : Int) with
    | false =>
      rw [hf] at HF
      clear hf HC HO HAL
      go_enter Try.func7, Try.ntmps7
      go_wp2_with fail
      refine (HF.out _ hE0).mono ?_
      rintro e w1 ⟨rfl, hE⟩
      go_wp2_with fail
      refine (awake_any w1).mono ?_
      rintro e w2 ⟨rfl, hE2⟩
      go_wp2_with fail
      go_ret
      exact ⟨rfl, (hE0.trans hE).trans hE2⟩
    | true =>
      rw [hf] at HF
      obtain ⟨hM, h0, K, hKK, hK, hlen⟩ := good_facts hf
      obtain rfl : K = l.length := by omega
      have hM' : movesN A ≤ 4611686018427387904 := by omega
      have hLp : 0 < A.L := by have := (achk_zero h0).2.2.1; omega
      have hn0 : 0 < A.len 0 := len_pos h0 hLp
      have hn40 : A.len 0 ≤ 40 := Nat.le_trans (len_le_moves A hLp) hM
      have hO := fun W hE => HO.out W hE hM'
      have eO : oblS A = (oblB A, 0) := by unfold oblS; rw [if_pos h0]
      rw [eO] at hO
      have HO := hide hO
      have hC1 := fun W hE => HC.out W 1 hE hM'
      have eC1 : countS A 1 1048576 = ((A.len 0 : Int), 0) := by
        have := count_ok (A := A) (K := 1) h0 (by decide) (by rw [fromS_one]; omega)
        rw [fromS_one] at this
        exact this
      rw [eC1] at hC1
      have HC1 := hide hC1
      obtain ⟨b, o, rfl, hb, hat⟩ := HAT.out hLp
      obtain ⟨q0, dd, hcell, hdd, hdl, hrow0, hmv⟩ := hat 0 hLp
      obtain ⟨b2, o2, rfl, hb2, hmv⟩ := hmv hn0
      have HCL := hide hcell
      have HMV := hide hmv
      have HPOS := hide (show 0 < A.L ∧ 0 < A.len 0 ∧ A.len 0 ≤ 40 from ⟨hLp, hn0, hn40⟩)
      have HOB := hide (fun h => obl_pow h0 h l.length 0 hLp (reach_zero A))
      have HOA := hide (fun h is his => obl_allows h0 h is 0 hLp (reach_zero A) his)
      have HL3 := hide (show l.length ≤ 3 by omega)
      have HM := hide (And.intro h0 hM')
      have dL : (0 : Int) < (A.L : Int) := by omega
      clear hO eO hC1 eC1 hat hcell hmv hrow0 hdl hf h3 hlen hKK hK h0 hM hM'
      cases hob : oblB A with
      | false =>
        rw [hob] at HO
        clear hob HOB HOA
        go_enter Try.func7, Try.ntmps7
        go_wp2_with fail
        refine (HF.out _ hE0).mono ?_
        rintro e w1 ⟨rfl, hE⟩
        obtain ⟨c0, c1, hz⟩ := HB.out _ hE
        go_wp2_with fail
        refine (HO.out _ (hE0.trans hE)).mono ?_
        rintro e w2 ⟨rfl, hE2⟩
        have hE := hE.trans hE2
        clear c0 c1 hE2
        obtain ⟨c0, c1, hz⟩ := HB.out _ hE
        go_wp2_with fail
        refine (HC1.out _ (hE0.trans hE)).mono ?_
        rintro e w3 ⟨rfl, hE2⟩
        have hE := hE.trans hE2
        clear c0 c1 hE2
        obtain ⟨c0, c1, hz⟩ := HB.out _ hE
        have cs := HCL.out _ (hE0.trans hE)
        rw [Nat.add_zero] at cs
        go_wp2_with fail
        refine (awake_any w3).mono ?_
        rintro e w4 ⟨rfl, hE2⟩
        go_wp2_with fail
        go_ret
        exact ⟨rfl, (hE0.trans hE).trans hE2⟩
      | true =>
        rw [hob] at HO
        have HOB := hide (HOB.out hob)
        have HOA := hide (HOA.out hob)
        clear hob
        generalize hn : A.len 0 = n at HO HC1 HMV HPOS HOB HOA HCL hn0 hn40
        have HN := hide hn
        clear hn
        go_enter Try.func7, Try.ntmps7
        go_wp2_with fail
        refine (HF.out _ hE0).mono ?_
        rintro e w1 ⟨rfl, hE⟩
        obtain ⟨c0, c1, hz⟩ := HB.out _ hE
        go_wp2_with fail
        refine (HO.out _ (hE0.trans hE)).mono ?_
        rintro e w2 ⟨rfl, hE2⟩
        have hE := hE.trans hE2
        clear c0 c1 hE2
        obtain ⟨c0, c1, hz⟩ := HB.out _ hE
        go_wp2_with fail
        refine (HC1.out _ (hE0.trans hE)).mono ?_
        rintro e w3 ⟨rfl, hE2⟩
        have hE := hE.trans hE2
        clear c0 c1 hE2
        obtain ⟨c0, c1, hz⟩ := HB.out _ hE
        have cs := HCL.out _ (hE0.trans hE)
        rw [Nat.add_zero] at cs
        go_wp2_with fail
        clear c0 c1 cs
        have HE := hide hE
        clear hE
        go_loopw [9, 10, 59] (fun y t x V => ∃ i : Nat, i ≤ l.length ∧ x = .int .i64 i ∧ t = .int .i64 ((n ^ i : Nat) : Int) ∧ Own Rd.cells 7 V w3.heap.size 67 y ((l.take i).map fun k => (A.mv 0 (k % n)).r) ∧ Ext w3 V) (fun _ _ x _ => l.length - (intOf x).toNat)
        case atStart => exact ⟨0, by omega, rfl, by simp, Own.nil _ _ _ (fun _ => rfl), Ext.refl _⟩
        case round =>
          obtain ⟨i, hi, rfl, rfl, hown, hE3⟩ := hrel
          have HOWN := hide hown
          clear hown
          have hEr := HE.out.trans hE3
          obtain ⟨c0, c1, hzr⟩ := HB.out _ hEr
          have cs := HCL.out _ (hE0.trans hEr)
          rw [Nat.add_zero] at cs
          have hpow : n ^ i ≤ 64000 := Nat.le_trans (Nat.pow_le_pow_left hn40 i) (Nat.le_trans (Nat.pow_le_pow_right (by decide) (show i ≤ 3 by have := HL3.out; omega)) (by decide))
          have HPOW := hide hpow
          clear hpow
          by_cases hlt : i < l.length
          · obtain ⟨bq, oq, rfl, hbq, hcu⟩ := HUC.out (by omega)
            have hk : wr.cell? ⟨bq, oq + i, none⟩ = some (.int .u8 ((l.getD i 0 : Nat) : Int)) := ((hE0.trans hEr).cell (p := ⟨bq, oq + i, none⟩) hbq).trans (hcu i hlt)
            have hk256 : l.getD i 0 < 256 := HUL.out _ (by rw [getElem_getD' hlt]; exact List.getElem_mem hlt)
            have HTK := hide (show (l.take (i + 1)).map (fun k => (A.mv 0 (k % n)).r) = (l.take i).map (fun k => (A.mv 0 (k % n)).r) ++ [(A.mv 0 (l.getD i 0 % n)).r] by
              rw [List.take_succ_eq_append_getElem hlt, List.map_append, List.map_singleton, getElem_getD' hlt])
            have hidx : l.getD i 0 % n < n := Nat.mod_lt _ hn0
            have hrem : Int.tmod ((l.getD i 0 : Nat) : Int) (n : Int) = ((l.getD i 0 % n : Nat) : Int) := (Int.ofNat_tmod _ _).symm
            obtain ⟨x0, x1, x2, x3, x4, x5, x6, x7⟩ := HMV.out _ hidx
            have h0 := x0 _ (hE0.trans hEr)
            have h1 := x1 _ (hE0.trans hEr)
            have h2 := x2 _ (hE0.trans hEr)
            have h3 := x3 _ (hE0.trans hEr)
            have h4 := x4 _ (hE0.trans hEr)
            have h5 := x5 _ (hE0.trans hEr)
            have h6 := x6 _ (hE0.trans hEr)
            clear x0 x1 x2 x3 x4 x5 x6 x7 hcu
            generalize (A.mv 0 (l.getD i 0 % n)).r = r at h0 h1 h2 h3 h4 h5 h6 HTK
            generalize l.getD i 0 % n = ix at hidx hrem h0 h1 h2 h3 h4 h5 h6
            generalize l.getD i 0 = kk at hk hk256 hrem
            obtain ⟨⟨n1, a1, b1, c1', d1, e1⟩, f1⟩ := r
            dsimp only at h0 h1 h2 h3 h4 h5 h6
            go_wp2_with fail
            have HTR := hide (hE0.trans hEr)
            have hzb := (hE0.trans hEr).size
            have HZ3 := hide hE3.size
            refine wp_region_held 12 (fun V => V.heap[w.heap.size]? = wr.heap[w.heap.size]? ∧ V.heap[b]? = wr.heap[b]? ∧ V.heap[b2]? = wr.heap[b2]?) (by kernel_rfl) (by kernel_rfl) ?_
            intro W2 hW2
            have hE2 : Ext wr W2 := by rw [hW2]; exact (Ext.refl wr).drew
            clear hW2
            refine ⟨⟨hE2.b.block _ hzr, hE2.b.block _ (by omega), hE2.b.block _ (by omega)⟩, ?_⟩
            simp only [List.take_succ_cons, List.take_zero, List.drop_succ_cons, List.drop_zero]
            refine wpHead_step u9 (by simp [Region.wanted]) (fun V _ => by go_simp) ?_
            refine wpHead_step (.pointer (some ⟨w.heap.size, 1, none⟩)) (by simp [Region.wanted]) (fun V _ => by go_simp) ?_
            refine wpHead_step (.slice (some ⟨b, o, none⟩) A.L c) (by simp [Region.wanted]) (fun V hV => by
              have hx := (World.cell?_of_block (a := ⟨w.heap.size, 1, none⟩) hV.1).trans c1
              go_simp) ?_
            refine wpHead_step (.pointer (some ⟨b, o, none⟩)) (by simp [Region.wanted]) (fun V _ => by go_simp) ?_
            refine wpHead_step (.slice (some ⟨b2, o2, none⟩) n dd) (by simp [Region.wanted]) (fun V hV => by
              have hx := (World.cell?_of_block (a := ⟨b, o, none⟩) hV.2.1).trans cs
              go_simp) ?_
            refine wpHead_step (.int .u8 (kk : Int)) (by simp [Region.wanted]) (fun V _ => by go_simp) ?_
            refine wpHead_step (.int .i64 (kk : Int)) (by simp [Region.wanted]) (fun V _ => by
              go_simp
              exact wrap_small hk256) ?_
            refine wpHead_step (.int .i64 (n : Int)) (by simp [Region.wanted]) (fun V _ => by go_simp) ?_
            refine wpHead_step (.int .i64 (ix : Int)) (by simp [Region.wanted]) (fun V _ => by
              go_simp
              omega) ?_
            refine wpHead_step (.pointer (some ⟨b2, o2 + ix * 8, none⟩)) (by simp [Region.wanted]) (fun V _ => by go_simp) ?_
            refine wpHead_step (.pointer (some ⟨b2, o2 + ix * 8, none⟩)) (by simp [Region.wanted]) (fun V _ => by go_simp) ?_
            refine wpHead_step (.agg #[.int .i64 n1, .int .i64 a1, .int .i64 b1, .int .i64 c1', .int .i64 d1, .int .i64 e1, .int .i64 f1]) (by simp [Region.wanted]) (fun V hV => by
              have y0 := (World.cell?_of_block (a := ⟨b2, o2 + ix * 8, none⟩) hV.2.2).trans h0
              have y1 := (World.cell?_of_block (a := ⟨b2, o2 + ix * 8 + 1, none⟩) hV.2.2).trans h1
              have y2 := (World.cell?_of_block (a := ⟨b2, o2 + ix * 8 + 2, none⟩) hV.2.2).trans h2
              have y3 := (World.cell?_of_block (a := ⟨b2, o2 + ix * 8 + 3, none⟩) hV.2.2).trans h3
              have y4 := (World.cell?_of_block (a := ⟨b2, o2 + ix * 8 + 4, none⟩) hV.2.2).trans h4
              have y5 := (World.cell?_of_block (a := ⟨b2, o2 + ix * 8 + 5, none⟩) hV.2.2).trans h5
              have y6 := (World.cell?_of_block (a := ⟨b2, o2 + ix * 8 + 6, none⟩) hV.2.2).trans h6
              go_simp) ?_
            simp only [Act.put, List.setIfInBounds_toArray, List.set_cons_zero, List.set_cons_succ]
            show wpTail _ _ _ _ _ _ _ _ _
            clear h0 h1 h2 h3 h4 h5 h6 c0 c1 cs hk
            have hrow : w3.heap.size ≤ W2.heap.size := Nat.le_trans HZ3.out hE2.size
            have HE2 := hide hE2
            clear hE2
            have HO3 := hide ((HOWN.out.ext HE2.out).alloc (.cells #[.int .i64 n1, .int .i64 a1, .int .i64 b1, .int .i64 c1', .int .i64 d1, .int .i64 e1, .int .i64 f1] 67))
            have HX3 : Hid (∀ j u, (Rd.cells ⟨⟨n1, a1, b1, c1', d1, e1⟩, f1⟩)[j]? = some u → (W2.alloc (.cells #[.int .i64 n1, .int .i64 a1, .int .i64 b1, .int .i64 c1', .int .i64 d1, .int .i64 e1, .int .i64 f1] 67)).cell? ⟨W2.heap.size, j, none⟩ = some u) := fun j u hj => by rw [cell_new, List.getElem?_toArray]; exact hj
            have HB2 : Hid (∀ k, k < w3.heap.size → W2.heap[k]? = wr.heap[k]?) := fun k hk => HE2.out.b.block _ (Nat.lt_of_lt_of_le hk HZ3.out)
            have HLT : Hid (w.heap.size < w3.heap.size ∧ b < w3.heap.size ∧ b2 < w3.heap.size) := by
              have h1 := (HB.out _ HE.out).2.2
              have h2 := (hE0.trans HE.out).size
              exact ⟨h1, by omega, by omega⟩
            have hl17 : ((l.take i).map fun k => (A.mv 0 (k % n)).r).length ≤ 3 := by rw [List.length_map, List.length_take]; have := HL3.out; omega
            have HLL := hide hl17
            clear hl17
            refine wpTail_keep (fun KK hKK => ?_)
            go_wp2_with fail
            refine ⟨rfl, hKK _ _ ⟨?_, ?_, ?_⟩ ?_⟩
            · exact (Below.heap_alloc _ _ _ (by have := HLT.out; omega)).trans (HB2.out _ HLT.out.1)
            · exact (Below.heap_alloc _ _ _ (by have := HLT.out; omega)).trans (HB2.out _ HLT.out.2.1)
            · exact (Below.heap_alloc _ _ _ (by have := HLT.out; omega)).trans (HB2.out _ HLT.out.2.2)
            clear hKK KK
            refine wpTail_keep (fun KK hKK => ?_)
            go_wp2_with (at_builtin; refine wpList_append1 rfl (.tmp 63) (.tmp 75) 25 rfl w3.heap.size 67 (Rd.v default) 7 56 Try.underlying25 round_info rfl (by decide) u9 ((l.take i).map fun k => (A.mv 0 (k % n)).r) ⟨⟨n1, a1, b1, c1', d1, e1⟩, f1⟩ W2.heap.size rfl HO3.out rfl HX3.out (rd_one _) (by have := HLL.out; omega) (by decide) (by simp; omega) ?_; intro v' W4 hO4 hg4 hf4)
            have HK4 : Hid (∀ k, k < w3.heap.size → W4.heap[k]? = wr.heap[k]?) := fun k hk => (hg4.block _ (by simp; omega) (fun he => by have := HOWN.out.2.lt _ he.symm; omega)).trans ((Below.heap_alloc _ _ _ (by omega)).trans (HB2.out _ hk))
            refine ⟨rfl, hKK _ _ ⟨HK4.out _ HLT.out.1, HK4.out _ HLT.out.2.1, HK4.out _ HLT.out.2.2⟩ ?_⟩
            clear hKK KK
            have HO4 := hide hO4
            have HG4 := hide hg4
            clear hO4 hg4 hf4
            refine wpTail_keep (fun KK hKK => ?_)
            go_wp2_with fail
            refine ⟨rfl, hKK _ _ ⟨HK4.out _ HLT.out.1, HK4.out _ HLT.out.2.1, HK4.out _ HLT.out.2.2⟩ ?_⟩
            clear hKK KK
            refine wpTail_nil ?_
            have hmul1 : n ^ i * n ≤ 64000 * 40 := Nat.mul_le_mul HPOW.out hn40
            have hpe : (n : Int) ^ i * (n : Int) = ((n ^ (i + 1) : Nat) : Int) := by rw [Nat.pow_succ, Int.natCast_mul, Int.natCast_pow]
            have hpl : n ^ (i + 1) ≤ 64000 * 40 := by rw [Nat.pow_succ]; exact hmul1
            clear hmul1
            go_wp2_with fail
            have hO4 := HO4.out
            rw [← HTK.out] at hO4
            exact ⟨⟨i + 1, by omega, by simp, by rw [← Int.natCast_pow, wrap64_small hpl], hO4, (Ext.trans hE3 HE2.out).appended (HOWN.out.ext HE2.out) HG4.out⟩, by simp [intOf]; omega⟩
          · obtain rfl : i = l.length := by omega
            have HR := hide (HOWN.out.row (by rw [List.length_map, List.length_take]; have := HL3.out; omega))
            rw [List.take_length] at HR
            have hpn := HOB.out
            have hcnt : countS A (l.length : Int) 1048576 = (((n ^ l.length : Nat) : Int), 0) := by
              have := count_ok (A := A) (K := l.length) HM.out.1 (by have := HL3.out; omega) (by rw [hpn]; have := HPOW.out; omega)
              rw [hpn] at this
              exact this
            have HC2 := hide (fun W hE => HC.out W (l.length : Int) hE HM.out.2)
            rw [hcnt] at HC2
            have hall : allowsS A (l.map fun k => (A.mv 0 (k % n)).r) = (true, 0) := by
              have := HOA.out (l.map (· % n)) (fun x hx => by
                obtain ⟨y, _, rfl⟩ := List.mem_map.1 hx
                exact Nat.mod_lt _ hn0)
              rw [List.map_map] at this
              unfold allowsS
              rw [if_pos HM.out.1]
              exact congrArg (·, (0 : Int)) (decide_eq_true this)
            have HAL2 := hide (fun W u hE hu => HAL.out W u (l.map fun k => (A.mv 0 (k % n)).r) hE hu HM.out.2)
            rw [hall] at HAL2
            obtain ⟨qw, dw, hu9, -⟩ := id HR.out
            clear hall hcnt hpn HOWN
            subst hu9
            have hR2 := HR.out
            rw [List.length_map] at hR2
            have HR := hide hR2
            clear hR2
            generalize n ^ l.length = np at HC2
            go_wp2_with fail
            refine (HAL2.out _ _ (hE0.trans hEr) HR.out).mono ?_
            rintro e w4 ⟨rfl, hE2⟩
            have hE := hEr.trans hE2
            clear c0 c1 hE2 cs
            obtain ⟨c0, c1, hz⟩ := HB.out _ hE
            go_wp2_with fail
            refine (HC2.out _ (hE0.trans hE)).mono ?_
            rintro e w5 ⟨rfl, hE2⟩
            have hE := hE.trans hE2
            clear c0 c1 hE2
            go_wp2_with fail
            refine (awake_any w5).mono ?_
            rintro e w6 ⟨rfl, hE2⟩
            go_wp2_with fail
            go_ret
            exact ⟨rfl, (hE0.trans hE).trans hE2⟩
end Go.Proofs.Ytjgkgcjmcpgiaaa

namespace Go.Proofs.Ytjgkgcjmcpgiaaa
open Go.ChangeShapes Go.WideShapes Go.ChangeAt Go.RowKit

set_option maxRecDepth 100000 in
theorem adversaryRepeats_lifted (os : Os) (started : os.Started) (H : Type) (enc : TypeId × Value → H) :
    ReturnsInHanded {} Try.checked os 7 .any (Rows.adversaryRepeatsSpec.pre6 enc Try.prog Try.f7 Rows.adversaryRepeatsRow.domain false) (Rows.adversaryRepeatsSpec.post enc Try.prog Try.f7 false true false false) := by
  refine returnsInHanded_of_change_sized (C := Try.checked) ownKnob_none started (by kernel_rfl) Try.func7
    (ChangeSpec.witness6 (enc := enc) (C := Try.checked) false ⟨#[], #[.agg #[.int .i64 0, .slice none 0 0], .slice none 0 0], []⟩ 8 (by kernel_rfl) (by kernel_rfl) (by kernel_rfl) (by kernel_rfl)) ?_
  intro W base args ds gs before hval0 hW hcnd hsz _
  have hval : ∀ (j : Nat) t v, Try.f7.params[j]? = some t → args[j]? = some v → Value.okWide Try.prog W .any base t v := hval0
  have hW' := hW
  obtain ⟨p, q, hA0, hV, rfl, hfz, hnd⟩ := hW
  have hA : DataW.TrodAll enc Try.prog W 0 (fun _ => true) true Try.f7.params.toList args.toList ds p := hA0
  have hA' := hA
  rw [Try.params7] at hA hval
  obtain ⟨v0, v1, d0, d1, p0, p1, rfl, rfl, rfl, h0, h1⟩ := trodAll_two hA
  obtain ⟨rfl, rfl⟩ := trodVars_none hV
  have hl0 : Light 24 d0 := Light.each hsz (j := 0) rfl rfl
  obtain ⟨A, hAdv⟩ := open_adv (hval 0 _ v0 rfl rfl) h0 hl0
  obtain ⟨qa1, qn1, qc1, rfl⟩ := okWide_slice Try.underlying61 (hval 1 _ v1 rfl rfl)
  obtain ⟨l1, hRow1⟩ := open_u8s h1 rfl
  have hlt := hW'.lt
  have hcall := repeats_law A v0 _ l1 W hAdv hRow1
  refine hcall.mono fun e W' ⟨he, hE⟩ => ?_
  subst he
  exact ⟨_, rfl, post_of_below (pv := []) hW' (fun _ _ _ => trodAll_mk1 (shut_bool Try.underlying4 _)) (fun sp hs => keep_all hE (by decide +kernel) hA' (fun x hx => hlt x (List.mem_append_left _ hx)) sp (fun x hx => hs x (List.mem_append_left _ hx))) (fun _ _ => rfl) rfl hE.b (ok_one (by kernel_rfl) rfl (okWide_bool_mk Try.underlying4 _))⟩

theorem adversaryRepeats_holds : Rows.AdversaryRepeatsSaid :=
  OpenClaim.holds_of_wide 7 Try.f7 rfl rfl rfl rfl rfl rfl rfl ⟨rfl, rfl, rfl, rfl, rfl⟩ rfl rfl rfl rfl rfl (by kernel_rfl) Try.func7 (by kernel_rfl)
    (of_decide_eq_true (by kernel_rfl)) (by unfold Func.isWrapper; first | (rw [if_pos (by decide +kernel)]; kernel_rfl) | (rw [if_neg (by decide +kernel)]; exact ⟨rfl, rfl⟩))
    (fun os started H enc _ => adversaryRepeats_lifted os started H enc)
#print axioms adversaryRepeats_holds
end Go.Proofs.Ytjgkgcjmcpgiaaa
