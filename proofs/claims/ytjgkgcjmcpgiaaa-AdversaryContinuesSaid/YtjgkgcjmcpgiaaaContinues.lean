/-
  The law of chapter 16 on beginnings of words: the walk.
  Conditions: none.
-/
import Derived.Test.YtjgkgcjmcpgiaaaGood
import Derived.Test.YtjgkgcjmcpgiaaaOpen
import Derived.Deep.CutRange
namespace Go.Proofs.Ytjgkgcjmcpgiaaa
open Go.RowKit
attribute [local go_sem] Oper.semAt_some

theorem wrap_nat {n : Nat} (h : n < 1000) : IntKind.i64.wrap (n : Int) = n := by
  have e : (n : Int) % 18446744073709551616 = n := Int.emod_eq_of_lt (by omega) (by omega)
  show (if (true && decide ((n : Int) % 18446744073709551616 ≥ 9223372036854775808)) = true then (n : Int) % 18446744073709551616 - 18446744073709551616 else (n : Int) % 18446744073709551616) = n
  rw [e, decide_eq_false (by omega)]
  rfl
theorem wpHead_skip {P : Program} {ops : Array Oper} {S : World → Prop} {Q : Act → Prop} {o : Oper} {rest : List Oper} {a : Act} (hw : Region.wanted o (yielded ops a.tmps) = false) (hn : wpHead P ops S Q rest (a.put o.dst undef)) :
    wpHead P ops S Q (o :: rest) a := ⟨undef, .inr ⟨hw, rfl⟩, hn⟩
/-- A list of rows that lie anywhere, in a slice of the call's own. -/
def Bunch (wa V : World) (y : Value) (bs : List (List Rd)) : Prop :=
  ∃ vs : List Value, vs.length = bs.length ∧ Own one 1 V wa.heap.size 25 y vs ∧ ∀ (j : Nat) (u : Value) (xs : List Rd), vs[j]? = some u → bs[j]? = some xs → Row Rd.cells 7 wa u xs
theorem Bunch.ext {wa V W : World} {y : Value} {bs : List (List Rd)} (h : Bunch wa V y bs) (hE : Ext V W) : Bunch wa W y bs := by
  obtain ⟨vs, h1, h2, h3⟩ := h
  exact ⟨vs, h1, h2.ext hE, h3⟩
theorem Bunch.nil (wa V : World) : Bunch wa V (.slice none 0 0) [] := ⟨[], rfl, Own.nil _ _ _ (fun _ => rfl), fun j u xs h => by simp at h⟩
theorem Bunch.rows2 {wa V : World} {y : Value} {bs : List (List Rd)} (h : Bunch wa V y bs) (hE : Ext wa V) (hl : bs.length ≤ 17592186044416) : Rows2 Rd.cells 7 V y bs := by
  obtain ⟨vs, h1, h2, h3⟩ := h
  exact ⟨vs, h1, h2.row (by omega), fun j u xs hu hx => (h3 j u xs hu hx).ext hE⟩
theorem Bunch.slice {wa V : World} {y : Value} {bs : List (List Rd)} (h : Bunch wa V y bs) (hE : Ext wa V) (hl : bs.length ≤ 17592186044416) : ∃ q c, y = .slice q bs.length c := by
  obtain ⟨q, c, h, _⟩ := (h.rows2 hE hl).sl_all
  exact ⟨q, c, h⟩
theorem Bunch.push {wa V : World} {y u : Value} {vs : List Value} {bs : List (List Rd)} {x : List Rd} (h1 : vs.length = bs.length) (h2 : Own one 1 V wa.heap.size 25 y (vs ++ [u]))
    (h3 : ∀ (j : Nat) (u : Value) (xs : List Rd), vs[j]? = some u → bs[j]? = some xs → Row Rd.cells 7 wa u xs) (hx : Row Rd.cells 7 wa u x) : Bunch wa V y (bs ++ [x]) := by
  refine ⟨vs ++ [u], by simp [h1], h2, fun j u' xs hu hxs => ?_⟩
  by_cases hj : j < vs.length
  · rw [List.getElem?_append_left hj] at hu
    rw [List.getElem?_append_left (by omega)] at hxs
    exact h3 j u' xs hu hxs
  · rw [List.getElem?_append_right (by omega)] at hu hxs
    have hj0 : j - vs.length = 0 := by
      rcases Nat.eq_zero_or_pos (j - vs.length) with h | h
      · exact h
      · rw [List.getElem?_eq_none (by simp; omega)] at hu; cases hu
    rw [hj0] at hu
    rw [show j - bs.length = 0 by omega] at hxs
    simp only [List.getElem?_cons_zero, Option.some.injEq] at hu hxs
    subst hu hxs
    exact hx
/-- A row's beginning. -/
theorem Row.begin {w : World} {p : Option Addr} {n c : Nat} {xs : List Rd} (h : Row Rd.cells 7 w (.slice p n c) xs) {m : Nat} (hm : m ≤ xs.length) : Row Rd.cells 7 w (.slice p m c) (xs.take m) := by
  obtain ⟨p', c', hv, h1, h2, h3⟩ := h
  injection hv with e1 e2 e3
  subst e1 e2 e3
  have hl : (xs.take m).length = m := by rw [List.length_take]; omega
  refine ⟨p, c, by rw [hl], by rw [hl]; omega, ⟨h2.1, by rw [hl]; omega⟩, fun h0 => ?_⟩
  rw [hl] at h0
  obtain ⟨b, o, hp, hb, hat⟩ := h3 (by omega)
  refine ⟨b, o, hp, hb, fun i x hx => hat i x ?_⟩
  rw [List.getElem?_take] at hx
  split at hx
  · exact hx
  · cases hx
theorem begs_len : ∀ (l acc : List (List Rd)), (l.foldl begStep acc).length ≤ acc.length + l.length
  | [], _ => Nat.le_refl _
  | x :: l, acc => by
    have h1 := begs_len l (begStep acc x)
    have h2 : (begStep acc x).length ≤ acc.length + 1 := by unfold begStep; split <;> simp
    simp only [List.foldl_cons, List.length_cons]
    omega
theorem begs_take (l : List (List Rd)) (i : Nat) : (begs (l.take i)).length ≤ l.length := by
  have h1 := begs_len (l.take i) []
  have h2 : (l.take i).length ≤ l.length := by rw [List.length_take]; omega
  have h3 : (begs (l.take i)).length ≤ ([] : List (List Rd)).length + (l.take i).length := h1
  simp only [List.length_nil] at h3
  omega

set_option maxRecDepth 8000 in
set_option maxHeartbeats 4000000 in
theorem continues_law (A : Adv) (v : Value) (k : Int) (w : World) (hA : AdvRep w v A) :
    Calls Try.prog 9 #[v, .int .i64 k] w fun e w' => e = .returned (.bool true) ∧ Ext w w' := by
  have HF := hide (fun W (hE : Ext w W) => good_any A v k W (hA.ext hE))
  have HW := hide (fun W k (hE : Ext w W) h => pwords_any A v k W (hA.ext hE) h)
  have HS := hide (fun W u l (hE : Ext w W) (hu : Row Rd.cells 7 W u l) h => pstate_any A v u l W (hA.ext hE) hu h)
  have HT := hide (fun W s r (hE : Ext w W) h => step_any A v s r W (hA.ext hE) h)
  obtain ⟨p, c, rfl, hc, hL, hat⟩ := hA.all_
  clear hA hat
  have hE0 : Ext w (w.alloc (.cells #[.int .i64 A.n, .slice p A.L c] 24)) := (Ext.refl w).alloc _
  have HB := hide (fun w1 => abox2 w A.n (.slice p A.L c) (w1 := w1))
  cases hf : goodB A k with
  | false =>
    rw [hf] at HF
    clear hf HW HS HT
    go_enter Try.func9, Try.ntmps9
    go_wp2_with fail
    refine (HF.out _ hE0).mono ?_
    rintro e w1 ⟨rfl, hE⟩
    go_wp2_with fail
    refine (awake_any w1).mono ?_
    rintro e w2 ⟨rfl, hE2⟩
    go_wp2_with fail
    go_ret
    exact ⟨rfl, (hE0.trans hE).trans hE2⟩
  | true =>
    rw [hf] at HF
    obtain ⟨hM, h0, K, rfl, hK, hlen⟩ := good_facts hf
    have hM' : movesN A ≤ 4611686018427387904 := by omega
    cases K with
    | zero =>
      clear hf HW HS HT
      go_enter Try.func9, Try.ntmps9
      go_wp2_with fail
      refine (HF.out _ hE0).mono ?_
      rintro e w1 ⟨rfl, hE⟩
      go_wp2_with fail
      refine (awake_any w1).mono ?_
      rintro e w2 ⟨rfl, hE2⟩
      go_wp2_with fail
      go_ret
      exact ⟨rfl, (hE0.trans hE).trans hE2⟩
    | succ m =>
      have hLp : 0 < A.L := by have := (achk_zero h0).2.2.1; omega
      have hsl : (fromS A m 0).length ≤ 100 := Nat.le_trans (words_mono h0 m hLp) hlen
      have eW : wordsS A ((m + 1 : Nat) : Int) = (fromS A (m + 1) 0, 0) := words_ok h0 hK hlen
      have eW2 : wordsS A (m : Int) = (fromS A m 0, 0) := words_ok h0 (by omega) hsl
      have hW1 := fun W hE => HW.out W ((m + 1 : Nat) : Int) hE hM'
      rw [eW] at hW1
      have hW2 := fun W hE => HW.out W (m : Int) hE hM'
      rw [eW2] at hW2
      rw [Int.natCast_succ] at hW1 HF
      have HW1 := hide hW1
      have HW2 := hide hW2
      have HWL := hide (fun x (hx : x ∈ fromS A (m + 1) 0) => word_last h0 hx)
      have HBG := hide (begs_words h0 m hLp)
      have HS := hide (fun W u l hE hu => HS.out W u l hE hu hM')
      have HT := hide (fun W s r hE => HT.out W s r hE hM')
      have H0 := hide h0
      clear hW1 hW2 eW eW2 HW hf hLp hM hM' h0
      generalize fromS A (m + 1) 0 = ws at HW1 HWL HBG hlen
      generalize fromS A m 0 = ss at HW2 HBG hsl
      have dk : (((m : Int) + 1) == 0) = false := by simp; omega
      have dk2 : (m : Int) + 1 - 1 = m := by omega
      go_enter Try.func9, Try.ntmps9
      go_wp2_with fail
      refine (HF.out _ hE0).mono ?_
      rintro e w1 ⟨rfl, hE⟩
      obtain ⟨c0, c1, hz⟩ := HB.out _ hE
      go_wp2_with fail
      refine (HW1.out _ (hE0.trans hE)).mono ?_
      rintro e w2 ⟨u2, rfl, hC, hE2⟩
      have hE := hE.trans hE2
      clear c0 c1 hE2
      have HR1 := hide (hC.rows2 (by omega))
      obtain ⟨q2, d2, rfl⟩ := hC.slice
      clear hC
      obtain ⟨c0, c1, hz⟩ := HB.out _ hE
      go_wp2_with fail
      refine (HW2.out _ (hE0.trans hE)).mono ?_
      rintro e w3 ⟨u3, rfl, hC, hE2⟩
      have hE := hE.trans hE2
      have HR1 := hide (HR1.out.ext hE2)
      clear c0 c1 hE2
      have HR2 := hide (hC.rows2 (by omega))
      obtain ⟨q3, d3, rfl⟩ := hC.slice
      clear hC
      obtain ⟨c0, c1, hz⟩ := HB.out _ hE
      go_wp2_with fail
      clear c0 c1
      have HE := hide hE
      clear hE
      obtain ⟨wa, hwa⟩ : ∃ wa : World, wa = w3 := ⟨_, rfl⟩
      have hE3 : Ext wa w3 := by rw [hwa]; exact Ext.refl _
      have HWA := hide hwa
      have hza : w.heap.size < wa.heap.size := by rw [hwa]; exact hz
      rw [← hwa] at HE HR1 HR2
      clear hwa hz
      go_loopw [9, 49] (fun y x V => ∃ i : Nat, i ≤ ws.length ∧ x = .int .i64 i ∧ Bunch wa V y (begs (ws.take i)) ∧ Ext wa V) (fun _ x _ => ws.length - (intOf x).toNat)
      case atStart => exact ⟨0, by omega, rfl, Bunch.nil _ _, hE3⟩
      case round =>
        clear hE3 HWA
        obtain ⟨i, hi, rfl, hown, hE3⟩ := hrel
        have HBN := hide hown
        have hbl := begs_take ws i
        clear hown
        have hEr := HE.out.trans hE3
        obtain ⟨c0, c1, hzr⟩ := HB.out _ hEr
        by_cases hlt : i < ws.length
        · obtain ⟨q2', d2', hv, _, _, hat⟩ := HR1.out.sl_all
          injection hv with e1 e2 e3
          subst e1 e3
          clear e2
          obtain ⟨b, o, rfl, hb, hat⟩ := hat (by omega)
          obtain ⟨qx, dx, hcx, hrx, _⟩ := hat i hlt
          replace hcx := hcx _ hE3
          have hmem : ws.getD i [] ∈ ws := by rw [getElem_getD' hlt]; exact List.getElem_mem hlt
          obtain ⟨hxl, ha0, hb0, hblt, htl, htk⟩ := HWL.out _ hmem
          have hBS := begs_succ hlt
          have HBS := hide hBS
          clear hat hmem hBS
          generalize hX : ws.getD i [] = X at hcx hrx hxl ha0 hb0 hblt htl htk HBS
          clear hX
          obtain ⟨qx', dx', hv, hdx, _, hrd⟩ := id hrx.rd_all
          rw [hxl] at hv hcx hrx
          injection hv with e1 e2 e3
          subst e1 e3
          clear e2
          rw [hxl] at hdx
          have HRX := hide (hrx.ext hE3)
          have HXT := hide ((hrx.begin (m := m) (by omega)).ext hE3)
          have HXW := hide (hrx.begin (m := m) (by omega))
          have HRW := hide hrx
          have HA0 := hide ha0
          have HB0 := hide (And.intro hb0 hblt)
          have HTL := hide htl
          have HTK := hide htk
          have hrd := hrd (by omega)
          obtain ⟨b4, o4, rfl, hb4, hrd⟩ := hrd
          have HRD := hide (hrd m (by omega))
          clear hrx hrd hb0 hblt htl htk ha0
          generalize hBs : begs (ws.take i) = Bs at HBN HBS hbl
          clear hBs
          obtain ⟨qy, cy, rfl⟩ := HBN.out.slice hE3 (by omega)
          have HXL := hide hxl
          clear hxl
          go_upto_region 14 with fail
          obtain ⟨bn, hbn⟩ : ∃ n, Bs.length = n := ⟨_, rfl⟩
          rw [hbn]
          have HBL := hide hbn
          clear hbn
          go_cut [49, 73] from 49 to 118 (fun x t wx => x = .int .i64 i ∧ t = .bool (decide (Bs.getLast? ≠ some (X.take m))) ∧ Ext wr wx)
          case first =>
            cases Bs with
            | nil =>
              obtain rfl : 0 = bn := HBL.out
              refine wp_region_held 15 (fun _ => True) (by kernel_rfl) (by kernel_rfl) ?_
              intro W2 hW2
              have hE2 : Ext wr W2 := by rw [hW2]; exact (Ext.refl wr).drew
              clear hW2
              refine ⟨trivial, ?_⟩
              simp only [List.take_succ_cons, List.take_zero, List.drop_succ_cons, List.drop_zero]
              refine wpHead_step (.int .i64 0) (by simp [Region.wanted]) (fun V _ => by go_simp) ?_
              refine wpHead_step (.bool true) (by simp [Region.wanted]) (fun V _ => by go_simp) ?_
              refine wpHead_step (.bool true) (by simp [Region.wanted]) (fun V _ => by go_simp) ?_
              refine wpHead_skip (by simp [Region.wanted, yielded, Act.put]) ?_
              refine wpHead_skip (by simp [Region.wanted, yielded, Act.put]) ?_
              refine wpHead_skip (by simp [Region.wanted, yielded, Act.put]) ?_
              refine wpHead_skip (by simp [Region.wanted, yielded, Act.put]) ?_
              refine wpHead_skip (by simp [Region.wanted, yielded, Act.put]) ?_
              refine wpHead_skip (by simp [Region.wanted, yielded, Act.put]) ?_
              refine wpHead_skip (by simp [Region.wanted, yielded, Act.put]) ?_
              refine wpHead_skip (by simp [Region.wanted, yielded, Act.put]) ?_
              refine wpHead_skip (by simp [Region.wanted, yielded, Act.put]) ?_
              refine wpHead_skip (by simp [Region.wanted, yielded, Act.put]) ?_
              refine wpHead_skip (by simp [Region.wanted, yielded, Act.put]) ?_
              refine wpHead_step (.bool true) (by simp [Region.wanted]) (fun V _ => by go_simp) ?_
              simp only [Act.put, List.setIfInBounds_toArray, List.set_cons_zero, List.set_cons_succ]
              show wpTail _ _ _ _ _ _ _ _ _
              refine wpTail_nil ?_
              go_wp2_with fail
              go_meet
              case rel => exact ⟨rfl, by simp, hE2⟩
            | cons B0 Bs' =>
              obtain ⟨nb, hnb0⟩ : ∃ nb, Bs'.length = nb := ⟨_, rfl⟩
              have hnb : (B0 :: Bs').length = nb + 1 := by rw [List.length_cons, hnb0]
              obtain rfl : nb + 1 = bn := hnb.symm.trans HBL.out
              clear hnb0 HBL
              obtain ⟨_, _, hv, _, _, hbat⟩ := (HBN.out.rows2 hE3 (by omega)).sl_at
              injection hv with e1 e2 e3
              subst e1 e3
              clear e2
              obtain ⟨gy, oy, ql, dl, rfl, hgy, hcl, hrl, -⟩ := hbat nb (by omega)
              have hcl := hcl _ (Ext.refl _)
              clear hbat
              have hlast : (B0 :: Bs').getLast? = some ((B0 :: Bs').getD nb []) := by
                rw [List.getLast?_eq_getElem?, hnb, Nat.add_sub_cancel, List.getD_eq_getElem?_getD, List.getElem?_eq_getElem (by omega)]
                rfl
              have HLAST := hide hlast
              clear hlast
              generalize (B0 :: Bs').getD nb [] = LB at hcl hrl HLAST
              have HRL := hide hrl
              clear hrl
              have hnb100 : nb < 1000 := by omega
              have HNB := hide hnb
              clear hnb
              refine wp_region_held 12 (fun V => V.heap[gy]? = wr.heap[gy]?) (by kernel_rfl) (by kernel_rfl) ?_
              intro W2 hW2
              have hE2 : Ext wr W2 := by rw [hW2]; exact (Ext.refl wr).drew
              clear hW2
              refine ⟨hE2.b.block _ hgy, ?_⟩
              simp only [List.take_succ_cons, List.take_zero, List.drop_succ_cons, List.drop_zero]
              refine wpHead_step (.int .i64 ((nb + 1 : Nat) : Int)) (by simp [Region.wanted, yielded, Act.put]) (fun V _ => by go_simp) ?_
              refine wpHead_step (.bool false) (by simp [Region.wanted, yielded, Act.put]) (fun V _ => by go_simp; omega) ?_
              refine wpHead_step (.bool false) (by simp [Region.wanted, yielded, Act.put]) (fun V _ => by go_simp) ?_
              refine wpHead_step (.slice (some ⟨gy, oy, none⟩) (nb + 1) cy) (by simp [Region.wanted, yielded, Act.put]) (fun V _ => by go_simp) ?_
              refine wpHead_step (.int .i64 ((nb + 1 : Nat) : Int)) (by simp [Region.wanted, yielded, Act.put]) (fun V _ => by go_simp) ?_
              refine wpHead_step (.int .i64 (nb : Int)) (by simp [Region.wanted, yielded, Act.put]) (fun V _ => by
                go_simp
                exact wrap_nat hnb100) ?_
              refine wpHead_step (.pointer (some ⟨gy, oy + nb, none⟩)) (by simp [Region.wanted, yielded, Act.put]) (fun V _ => by
                go_simp
                exact fun h => absurd h (by omega)) ?_
              refine wpHead_step (.slice ql LB.length dl) (by simp [Region.wanted, yielded, Act.put]) (fun V hV => by
                have hx := (World.cell?_of_block (a := ⟨gy, oy + nb, none⟩) hV).trans hcl
                go_simp) ?_
              refine wpHead_step (.slice (some ⟨b4, o4, none⟩) (m + 1) dx) (by simp [Region.wanted, yielded, Act.put]) (fun V _ => by go_simp) ?_
              refine wpHead_step (.int .i64 ((m : Int) + 1)) (by simp [Region.wanted, yielded, Act.put]) (fun V _ => by go_simp) ?_
              refine wpHead_step (.int .i64 (m : Int)) (by simp [Region.wanted, yielded, Act.put]) (fun V _ => by
                go_simp
                exact wrap_nat (by omega)) ?_
              refine wpHead_step (.slice (some ⟨b4, o4, none⟩) m dx) (by simp [Region.wanted, yielded, Act.put]) (fun V _ => by
                go_simp
                exact fun h => absurd h (by omega)) ?_
              simp only [Act.put, List.setIfInBounds_toArray, List.set_cons_zero, List.set_cons_succ]
              show wpTail _ _ _ _ _ _ _ _ _
              refine wpTail_keep (fun KK hKK => ?_)
              go_wp2_with fail
              refine (sequal_rd LB (X.take m) _ _ W2 (HRL.out.ext hE2) (HXT.out.ext hE2)).mono ?_
              rintro e W3 ⟨rfl, hE4⟩
              have hS3 : W3.heap[gy]? = wr.heap[gy]? := (hE4.b.block _ (Nat.lt_of_lt_of_le hgy hE2.size)).trans (hE2.b.block _ hgy)
              have HDD := hide (show decide ((B0 :: Bs').getLast? ≠ some (X.take m)) = !decide (LB = X.take m) by rw [HLAST.out]; simp)
              generalize decide (LB = X.take m) = dd at HDD ⊢
              go_wp2_with fail
              refine ⟨rfl, hKK _ _ hS3 ?_⟩
              clear hKK KK
              refine wpTail_keep (fun KK hKK => ?_)
              go_wp2_with fail
              refine ⟨rfl, hKK _ _ hS3 ?_⟩
              clear hKK KK
              refine wpTail_keep (fun KK hKK => ?_)
              go_wp2_with fail
              refine ⟨rfl, hKK _ _ hS3 ?_⟩
              clear hKK KK
              refine wpTail_nil ?_
              go_wp2_with fail
              go_meet
              case rel => exact ⟨rfl, by rw [HDD.out], hE2.trans hE4⟩
          case rest =>
            obtain ⟨rfl, rfl, hEc⟩ := hcut
            have hHB : begStep Bs X = if Bs.getLast? = some (X.take m) then Bs else Bs ++ [X.take m] := by unfold begStep; rw [← HTK.out]
            have HHB := hide hHB
            have HDD := hide (fun h : Bs.getLast? = some (X.take m) => hHB.trans (if_pos h))
            have HDN := hide (fun h : Bs.getLast? ≠ some (X.take m) => hHB.trans (if_neg h))
            clear hHB
            go_upto_if 73 with fail
            go_cut [9, 49] from 49 to 118 (fun y x wx => x = .int .i64 i ∧ Bunch wa wx y (begStep Bs X) ∧ Ext wa wx)
            case first =>
              by_cases hdd : Bs.getLast? = some (X.take m)
              · have hd : decide (Bs.getLast? ≠ some (X.take m)) = false := decide_eq_false (fun h => h hdd)
                rw [hd]
                have HY := hide (HDD.out hdd)
                clear hd hdd HDN
                go_wp2_with fail
                go_meet
                case rel => exact ⟨rfl, by rw [HY.out, ← HBL.out]; exact HBN.out.ext hEc, hE3.trans hEc⟩
              · have hd : decide (Bs.getLast? ≠ some (X.take m)) = true := decide_eq_true hdd
                rw [hd]
                have HY := hide (HDN.out hdd)
                clear hd hdd HDN
                have hbx := HBN.out.ext hEc
                rw [HBL.out] at hbx
                obtain ⟨vs, hv1, hv2, hv3⟩ := hbx
                have HV1 := hide hv1
                have HV3 := hide hv3
                have HO3 := hide (hv2.alloc (.cells #[.slice (some ⟨b4, o4, none⟩) m dx] 25))
                have HX3 := hide (cell_new1 wc (.slice (some ⟨b4, o4, none⟩) m dx) 25)
                have HV2 := hide hv2
                clear hv1 hv2 hv3
                have hwc : wa.heap.size ≤ wc.heap.size := (hE3.trans hEc).size
                have hvl : vs.length ≤ 100 := by have := HV1.out; have := HBL.out; omega
                go_wp2_with (at_builtin; refine wpList_append1 rfl (.tmp 74) (.tmp 79) 41 rfl wa.heap.size 25 (.slice none 0 0) 1 24 Try.underlying41 rslice_info rfl (by decide) _ vs (.slice (some ⟨b4, o4, none⟩) m dx) wc.heap.size rfl HO3.out rfl HX3.out (by intro u hu; simp only [List.mem_singleton] at hu; subst hu; rfl) (by omega) (by decide) (by simp; omega) ?_; intro v' W4 hO4 hg4 hf4; have HO4 := hide hO4; have HG4 := hide hg4; clear hO4 hg4 hf4)
                go_meet
                case rel => exact ⟨rfl, by rw [HY.out]; exact Bunch.push HV1.out HO4.out HV3.out HXW.out, (hE3.trans hEc).appended HV2.out HG4.out⟩
            case rest =>
              obtain ⟨rfl, hBn, hEw⟩ := hcut
              have HBN := hide hBn
              have HZ := hide (And.intro c0 c1)
              clear hBn c0 c1 hcx
              have hEr := HE.out.trans hEw
              obtain ⟨c0, c1, hzw⟩ := HB.out _ hEr
              have hS1 : stateS A (X.take m) = (after A 0 (X.take m), 0) := by unfold stateS; rw [if_pos H0.out, if_pos HB0.out.1]
              have hS2 : stateS A X = (after A 0 X, 0) := by unfold stateS; rw [if_pos H0.out, if_pos HA0.out]
              have hS3 : stepS A (after A 0 (X.take m)) (X.getD m default) = (after A 0 X, 0) := by
                unfold stepS
                rw [if_pos H0.out, if_neg (by have := HB0.out; omega), HTL.out, if_pos HA0.out]
              have HS1 := hide (fun W hE hu => HS.out W (.slice (some ⟨b4, o4, none⟩) m dx) (X.take m) hE hu)
              rw [hS1] at HS1
              have HS2 := hide (fun W hE hu => HS.out W (.slice (some ⟨b4, o4, none⟩) (m + 1) dx) X hE hu)
              rw [hS2] at HS2
              have HT1 := hide (fun W hE => HT.out W (after A 0 (X.take m)) (X.getD m default) hE)
              rw [hS3] at HT1
              clear hS1 hS2 hS3
              generalize after A 0 (X.take m) = s0 at HS1 HT1
              generalize after A 0 X = s1 at HS2 HT1
              go_upto_region 16 with fail
              refine wp_region_ext (by kernel_rfl) (by kernel_rfl) ?_
              repeat (go_big_quiet_step ((go_at_call 13; exact Calls.ext_of (HS1.out _ (by simp [go_sem, hE0.trans hEr]) (by first | exact (HXW.out.ext hEw).ext (ExtOf.h _) | simp [go_sem])))))
              refine wpQuiet_nil ?_
              rintro w4 ⟨⟨_, hE4⟩, rfl⟩
              go_upto_region 17 with fail
              clear c0 c1 hzw
              have hEw4 := hEw.trans hE4
              have hEr4 := HE.out.trans hEw4
              obtain ⟨c0, c1, hzw⟩ := HB.out _ hEr4
              obtain ⟨r0, r1, r2, r3, r4, r5, r6⟩ := HRD.out
              have r0 := r0 _ hEw4
              have r1 := r1 _ hEw4
              have r2 := r2 _ hEw4
              have r3 := r3 _ hEw4
              have r4 := r4 _ hEw4
              have r5 := r5 _ hEw4
              have r6 := r6 _ hEw4
              have hb44 : b4 < w4.heap.size := Nat.lt_of_lt_of_le hb4 hEw4.size
              refine wp_region_ext (by kernel_rfl) (by kernel_rfl) ?_
              repeat (go_big_quiet_step ((go_at_call 33; exact Calls.ext_of (HT1.out _ (by simp [go_sem, hE0.trans hEr4])))))
              refine wpQuiet_nil ?_
              rintro w5 ⟨⟨_, hE5⟩, rfl⟩
              clear r0 r1 r2 r3 r4 r5 r6 c0 c1 hzw
              have hEw5 := hEw4.trans hE5
              have hEr5 := HE.out.trans hEw5
              obtain ⟨c0, c1, hzw⟩ := HB.out _ hEr5
              go_wp2_with fail
              refine (HS2.out _ (hE0.trans hEr5) (HRW.out.ext hEw5)).mono ?_
              rintro e w6 ⟨rfl, hE6⟩
              go_wp2_with fail
              have HRN := hide ((begs_take ws (i + 1)))
              go_roundw
              case rel => exact ⟨i + 1, by omega, by go_num, by rw [HBS.out]; exact HBN.out.ext ((hE4.trans hE5).trans hE6), hEw5.trans hE6⟩
              case measure => simp [intOf]; omega
        · obtain rfl : i = ws.length := by omega
          have HBE := HBN.out
          rw [List.take_of_length_le (Nat.le_refl _), HBG.out] at HBE
          have HR3 := hide (HBE.rows2 hE3 (by omega))
          have HR2 := hide (HR2.out.ext hE3)
          clear HBN HBE
          have hSW := rsamewords_any ss ss u9 (.slice q3 ss.length d3) wr HR3.out HR2.out
          rw [decide_eq_true (rfl : ss = ss)] at hSW
          have HSW := hide hSW
          clear hSW
          go_wp2_with fail
          refine HSW.out.mono ?_
          rintro e w4 ⟨rfl, hE4⟩
          go_wp2_with fail
          refine (awake_any w4).mono ?_
          rintro e w5 ⟨rfl, hE5⟩
          go_wp2_with fail
          go_ret
          exact ⟨rfl, ((hE0.trans hEr).trans hE4).trans hE5⟩
end Go.Proofs.Ytjgkgcjmcpgiaaa
