/-
  Texts are read as rounds and words: round.mask, letter, Parse.
  Conditions: the tables lie in the heap (Tz, Ml).
-/
import Derived.Test.YtfnhjalnbmnlaaaDoorRdText
import Derived.Test.YtfnhjalnbmnlaaaDoorRPars
namespace Go.Proofs.YtfnhjalnbmnlaaaDoor
open Go.RowKit
attribute [local go_sem] Oper.semAt_some

theorem mskS_lo {c : UInt8} {r : List UInt8} {o k : Nat} (h : c.toNat < 48 + k) : mskS (c :: r) o k = none := if_neg (by omega)
theorem mskS_hi {c : UInt8} {r : List UInt8} {o k : Nat} (h : 57 < c.toNat) : mskS (c :: r) o k = none := if_neg (by omega)
theorem mskS_ok {c : UInt8} {r : List UInt8} {o k : Nat} (h : 48 + k ≤ c.toNat) (h2 : c.toNat ≤ 57) : mskS (c :: r) o k = mskS r (o ||| 2 ^ (c.toNat - 48)) (c.toNat - 48 + 1) := if_pos ⟨h, h2⟩
theorem pow_shl10 (p : Nat) (hp : p < 10) : wrap64 (2 ^ p) = ((2 ^ p : Nat) : Int) := by
  obtain rfl | rfl | rfl | rfl | rfl | rfl | rfl | rfl | rfl | rfl : p = 0 ∨ p = 1 ∨ p = 2 ∨ p = 3 ∨ p = 4 ∨ p = 5 ∨ p = 6 ∨ p = 7 ∨ p = 8 ∨ p = 9 := by omega
  all_goals kernel_rfl
/-- What a mask is. -/
def maskV (l : List UInt8) : Nat × Bool := match maskS l with
  | some m => (m, true)
  | none => (0, false)
set_option maxRecDepth 16000 in
set_option maxHeartbeats 2000000 in
theorem mask_any (s : ByteArray) (hs : s.size ≤ 1000000) (w : World) : Calls Tryd.prog 91 #[.string s] w fun e w' => e = .returned (.tuple #[.int .i64 (maskV s.data.toList).1, .bool (maskV s.data.toList).2]) ∧ Ext w w' := by
  obtain ⟨C, fr, cap, hcv, hC⟩ := str_bytes s w
  have HC := hide hC
  have hlen : s.data.toList.length = s.size := Array.length_toList
  have hL : s.data.toList.length ≤ 1000000 := by omega
  have HNO : Hid (mskS s.data.toList 0 0 = none → maskV s.data.toList = (0, false)) := fun h => by
    unfold maskV maskS
    split
    · rename_i m hm
      split at hm
      · cases hm
      · rw [h] at hm; cases hm
    · rfl
  have HYES : Hid (∀ m, mskS s.data.toList 0 0 = some m → maskV s.data.toList = (if s.data.toList = [] then 0 else m, !decide (s.data.toList = []))) := fun m h => by
    unfold maskV maskS
    by_cases h0 : s.data.toList = []
    · rw [if_pos h0, if_pos h0, decide_eq_true h0]; rfl
    · rw [if_neg h0, if_neg h0, h, decide_eq_false h0]; rfl
  have HEM : Hid (s.toList.isEmpty = decide (s.data.toList = [])) := by
    show _ = _
    rw [ByteArray.toList_eq, Bool.eq_iff_iff, List.isEmpty_iff, decide_eq_true_iff]
  have HNZ : Hid (s.data.toList = [] → mskS s.data.toList 0 0 = some 0) := fun h => by rw [h]; rfl
  generalize maskV s.data.toList = res at HNO HYES ⊢
  generalize hl : s.data.toList = L at hcv HC hL HNO HYES HEM HNZ
  clear hl hC hlen hs
  go_enter Tryd.func91, Tryd.ntmps91
  go_wp2_with fail
  have HE : Hid (Ext w ((w.alloc (.cells C 5 fr)).drew)) := ((Ext.refl w).alloc _).drew
  have HBB : Hid (((w.alloc (.cells C 5 fr)).drew).heap[w.heap.size]? = some (.cells C 5 fr)) := World.alloc_heap_new w _
  generalize (w.alloc (.cells C 5 fr)).drew = V0 at HE HBB ⊢
  generalize w.heap.size = bb at HBB ⊢
  have hbz := lt_of_heap HBB.out
  have hLI : (L.length : Int) ≤ 1000000 := by omega
  go_loop [12, 4, 5, 7, 8] (fun x o l _ _ => ∃ (j out k : Nat), j ≤ L.length ∧ x = .int .i64 j ∧ o = .int .i64 out ∧ l = .int .i64 k ∧ out < 2 ^ 10 ∧ k ≤ 10 ∧ Hid (mskS L 0 0 = mskS (L.drop j) out k)) (fun x _ _ _ _ => L.length - (intOf x).toNat)
  case atStart => exact ⟨0, 0, 0, by omega, rfl, rfl, rfl, by decide, by omega, by show _ = _; rw [List.drop_zero]⟩
  case round =>
    obtain ⟨j, out, k, hj, rfl, rfl, rfl, hout, hk, HM⟩ := hrel
    by_cases hjt : j < L.length
    · have hcb : V0.cell? ⟨bb, j, none⟩ = some (.int .u8 (L[j].toNat : Int)) := by rw [cell_of_row _ _ _ _ _ _ HBB.out]; exact HC.out j hjt
      have HD := hide (List.drop_eq_getElem_cons hjt)
      generalize L[j] = c at hcb HD
      have hc256 : (c.toNat : Int) < 256 := by have := c.toNat_lt; omega
      by_cases h1 : (c.toNat : Int) < 48 + k
      · have HR := hide (HNO.out (by rw [HM.out, HD.out]; exact mskS_lo (by omega)))
        have hd1 : decide ((c.toNat : Int) - 48 < k) = true := by simp; omega
        clear h1
        go_wp2_with fail
        go_ret2
        exact ⟨by rw [HR.out]; rfl, HE.out⟩
      have hd1 : decide ((c.toNat : Int) - 48 < k) = false := by simp; omega
      by_cases h2 : (57 : Int) < (c.toNat : Int)
      · have HR := hide (HNO.out (by rw [HM.out, HD.out]; exact mskS_hi (by omega)))
        have hd2 : decide (9 < (c.toNat : Int) - 48) = true := by simp; omega
        clear h1 h2
        go_wp2_with fail
        go_ret2
        exact ⟨by rw [HR.out]; rfl, HE.out⟩
      obtain ⟨v, hv⟩ : ∃ v, c.toNat = 48 + v := ⟨c.toNat - 48, by omega⟩
      have HM2 : Hid (mskS L 0 0 = mskS (L.drop (j + 1)) (out ||| 2 ^ v) (v + 1)) := by
        show _ = _
        rw [HM.out, HD.out, mskS_ok (by omega) (by omega), hv, Nat.add_sub_cancel_left]
      have hv9 : v < 10 := by omega
      have hvI : (v : Int) < 10 := by omega
      have hkv : (k : Int) ≤ v := by omega
      rw [hv] at hcb h1 h2 hd1
      have hcb : V0.cell? ⟨bb, j, none⟩ = some (.int .u8 (48 + (v : Int))) := by rw [hcb]; simp
      have hsh := pow_shl10 v hv9
      have hp2 : 2 ^ v < 2 ^ 10 := Nat.pow_lt_pow_right (by decide) hv9
      have hor := i64_or_nat out (2 ^ v) (Nat.lt_of_lt_of_le hout (by decide)) (Nat.lt_of_lt_of_le hp2 (by decide))
      have ho2 : out ||| 2 ^ v < 2 ^ 10 := Nat.or_lt_two_pow hout hp2
      clear hc256 hv HM h1 h2 hd1
      generalize 2 ^ v = y at hsh hor HM2 ho2 hp2
      have HO2 := hide ho2
      clear ho2 hp2 hout
      go_wp2_with fail
      go_round
      case rel => exact ⟨j + 1, _, v + 1, by omega, by go_num, rfl, by go_num, HO2.out, by omega, HM2⟩
      case measure => simp [intOf]; omega
    · obtain rfl : j = L.length := by omega
      have HR := hide (HYES.out _ (HM.out.trans (by rw [List.drop_length]; rfl)))
      have HZ : Hid ((if L = [] then 0 else out) = out) := by
        show _ = _
        by_cases h0 : L = []
        · rw [if_pos h0]
          have h1 := HNZ.out h0
          rw [HM.out, List.drop_length] at h1
          exact (Option.some.inj h1).symm
        · rw [if_neg h0]
      go_wp2_with fail
      go_ret2
      exact ⟨by rw [HR.out, HZ.out, HEM.out]; rfl, HE.out⟩
theorem RdBox.setF {W : World} {b : Nat} {r : Rd} (h : RdBox W b r) (f : Int) : RdBox (W.setCell ⟨b, 6, none⟩ (.int .i64 f)) b ⟨r.g, f⟩ := heap_set (j := 6) h (.int .i64 f)
theorem RdBox.other {W : World} {b c : Nat} {r : Rd} (h : RdBox W b r) (hne : b ≠ c) (j : Nat) (v : Value) : RdBox (W.setCell ⟨c, j, none⟩ v) b r := (Below.heap_setCell _ _ _ _ hne).trans h
theorem RdBox.gset {W : World} {b : Nat} {q : Rd} (h : RdBox W b q) (r : Gr) : RdBox (gstore W b r) b ⟨r, q.f⟩ := by
  have hh : W.heap[b]? = some (robj q) := h
  have h0 : (W.setCell ⟨b, 0, none⟩ (.int .i64 r.n)).heap[b]? = some (.cells #[.int .i64 r.n, .int .i64 q.g.h0, .int .i64 q.g.h1, .int .i64 q.g.h2, .int .i64 q.g.h3, .int .i64 q.g.h4, .int .i64 q.f] 26) := heap_set (j := 0) hh (.int .i64 r.n)
  have h1 : ((W.setCell ⟨b, 0, none⟩ (.int .i64 r.n)).setCell ⟨b, 1, none⟩ (.int .i64 r.h0)).heap[b]? = some (.cells #[.int .i64 r.n, .int .i64 r.h0, .int .i64 q.g.h1, .int .i64 q.g.h2, .int .i64 q.g.h3, .int .i64 q.g.h4, .int .i64 q.f] 26) := heap_set (j := 1) h0 (.int .i64 r.h0)
  have h2 : (((W.setCell ⟨b, 0, none⟩ (.int .i64 r.n)).setCell ⟨b, 1, none⟩ (.int .i64 r.h0)).setCell ⟨b, 2, none⟩ (.int .i64 r.h1)).heap[b]? = some (.cells #[.int .i64 r.n, .int .i64 r.h0, .int .i64 r.h1, .int .i64 q.g.h2, .int .i64 q.g.h3, .int .i64 q.g.h4, .int .i64 q.f] 26) := heap_set (j := 2) h1 (.int .i64 r.h1)
  have h3 : ((((W.setCell ⟨b, 0, none⟩ (.int .i64 r.n)).setCell ⟨b, 1, none⟩ (.int .i64 r.h0)).setCell ⟨b, 2, none⟩ (.int .i64 r.h1)).setCell ⟨b, 3, none⟩ (.int .i64 r.h2)).heap[b]? = some (.cells #[.int .i64 r.n, .int .i64 r.h0, .int .i64 r.h1, .int .i64 r.h2, .int .i64 q.g.h3, .int .i64 q.g.h4, .int .i64 q.f] 26) := heap_set (j := 3) h2 (.int .i64 r.h2)
  have h4 : (((((W.setCell ⟨b, 0, none⟩ (.int .i64 r.n)).setCell ⟨b, 1, none⟩ (.int .i64 r.h0)).setCell ⟨b, 2, none⟩ (.int .i64 r.h1)).setCell ⟨b, 3, none⟩ (.int .i64 r.h2)).setCell ⟨b, 4, none⟩ (.int .i64 r.h3)).heap[b]? = some (.cells #[.int .i64 r.n, .int .i64 r.h0, .int .i64 r.h1, .int .i64 r.h2, .int .i64 r.h3, .int .i64 q.g.h4, .int .i64 q.f] 26) := heap_set (j := 4) h3 (.int .i64 r.h3)
  have h5 : ((((((W.setCell ⟨b, 0, none⟩ (.int .i64 r.n)).setCell ⟨b, 1, none⟩ (.int .i64 r.h0)).setCell ⟨b, 2, none⟩ (.int .i64 r.h1)).setCell ⟨b, 3, none⟩ (.int .i64 r.h2)).setCell ⟨b, 4, none⟩ (.int .i64 r.h3)).setCell ⟨b, 5, none⟩ (.int .i64 r.h4)).heap[b]? = some (.cells #[.int .i64 r.n, .int .i64 r.h0, .int .i64 r.h1, .int .i64 r.h2, .int .i64 r.h3, .int .i64 r.h4, .int .i64 q.f] 26) := heap_set (j := 5) h4 (.int .i64 r.h4)
  exact h5
theorem maskV_cases (l : List UInt8) : (maskV l = (0, false) ∧ maskS l = none) ∨ (∃ m : Nat, maskV l = (m, true) ∧ maskS l = some m) := by
  unfold maskV
  cases h : maskS l with
  | none => exact .inl ⟨rfl, rfl⟩
  | some m => exact .inr ⟨m, rfl, rfl⟩
theorem let_none {x : List UInt8} (h : 0 ≤ Lib.index x [32, 33]) (h2 : maskS (x.drop ((Lib.index x [32, 33]).toNat + 2)) = none) : letS x = none := by unfold letS; rw [if_pos h, h2]
theorem let_some {x : List UInt8} {m : Nat} (h : 0 ≤ Lib.index x [32, 33]) (h2 : maskS (x.drop ((Lib.index x [32, 33]).toNat + 2)) = some m) : letS x = if (parseS (x.take (Lib.index x [32, 33]).toNat)).2 = 0 then some ⟨(parseS (x.take (Lib.index x [32, 33]).toNat)).1, m⟩ else none := by unfold letS; rw [if_pos h, h2]
theorem let_miss {x : List UInt8} (h : ¬ 0 ≤ Lib.index x [32, 33]) : letS x = if (parseS x).2 = 0 then some ⟨(parseS x).1, 0⟩ else none := if_neg h
/-- What a letter's text yields. -/
def RetLt (o : Option Rd) (w : World) (e : Ending) (w' : World) : Prop := ∃ (r : Rd) (b : Bool), e = .returned (.tuple #[r.v, .bool b]) ∧ Ext w w' ∧ ((b = true ∧ o = some r) ∨ (b = false ∧ o = none))
set_option maxRecDepth 16000 in
set_option maxHeartbeats 2000000 in
theorem letter_any (s : ByteArray) (hs : s.size ≤ 1000000) (w : World) (hT : Tz w) (hM : Ml w) : Calls Tryd.prog 57 #[.string s] w (RetLt (letS s.data.toList) w) := by
  obtain ⟨hM0, m, hm⟩ := hM
  have hM : Hid (Ml w) := ⟨hM0, m, hm⟩
  have hT := hide hT
  have HSP := hide (fun W hc => Sstrings_Cut s ⟨#[32, 33]⟩ m W (by omega) hc)
  have hlen : s.data.toList.length = s.size := Array.length_toList
  have HPA : Hid (∀ (x : ByteArray) (W : World), x.size ≤ 1000000 → Ext w W → Calls Tryd.prog 92 #[.string x] W (RetG (parseS x.data.toList) W)) := fun x W hx hE => parse_any x hx W (hT.out.ext hE) (Ml.ext hM.out hE)
  have HMA := hide (fun (x : ByteArray) (hx : x.size ≤ 1000000) W => mask_any x hx W)
  by_cases hi : 0 ≤ Lib.index s.data.toList [32, 33]
  · have hcut : Lib.cut s.data.toList (⟨#[32, 33]⟩ : ByteArray).data.toList = (s.data.toList.take (Lib.index s.data.toList [32, 33]).toNat, s.data.toList.drop ((Lib.index s.data.toList [32, 33]).toNat + 2), true) := if_pos hi
    rw [hcut] at HSP
    obtain ⟨xa, hxa, hza⟩ : ∃ xa : ByteArray, (⟨(s.data.toList.take (Lib.index s.data.toList [32, 33]).toNat).toArray⟩ : ByteArray) = xa ∧ xa.data.toList = s.data.toList.take (Lib.index s.data.toList [32, 33]).toNat := ⟨_, rfl, rfl⟩
    obtain ⟨xb, hxb, hzb⟩ : ∃ xb : ByteArray, (⟨(s.data.toList.drop ((Lib.index s.data.toList [32, 33]).toNat + 2)).toArray⟩ : ByteArray) = xb ∧ xb.data.toList = s.data.toList.drop ((Lib.index s.data.toList [32, 33]).toNat + 2) := ⟨_, rfl, rfl⟩
    have hsa : xa.size ≤ 1000000 := by
      have h1 : xa.data.toList.length = xa.size := Array.length_toList
      rw [hza] at h1
      have := List.length_take_le' (Lib.index s.data.toList [32, 33]).toNat s.data.toList
      omega
    have hsb : xb.size ≤ 1000000 := by
      have h1 : xb.data.toList.length = xb.size := Array.length_toList
      rw [hzb, List.length_drop] at h1
      omega
    have HN : Hid (maskS xb.data.toList = none → letS s.data.toList = none) := fun h => let_none hi (by rw [← hzb]; exact h)
    have HS : Hid (∀ m : Nat, maskS xb.data.toList = some m → letS s.data.toList = if (parseS xa.data.toList).2 = 0 then some ⟨(parseS xa.data.toList).1, m⟩ else none) := fun m h => by
      rw [hza]
      exact let_some hi (by rw [← hzb]; exact h)
    simp only [hxa, hxb] at HSP
    have HMA := hide (HMA.out xb hsb)
    have HPA := hide (fun W => HPA.out xa W hsa)
    have HMC := hide (maskV_cases xb.data.toList)
    generalize parseS xa.data.toList = pr at HS HPA
    obtain ⟨pg, pe⟩ := pr
    generalize letS s.data.toList = res at HN HS ⊢
    clear hxa hza hxb hzb hsa hsb hcut hi hlen hs
    go_enter Tryd.func57, Tryd.ntmps57
    go_upto_region 2 with fail
    have HB2 : Hid (RdBox ((w.alloc robj0).alloc robj0) w.heap.size rz0) := (rd_new w rz0).alloc _
    have HB4 : Hid (RdBox ((w.alloc robj0).alloc robj0) (w.heap.size + 1) rz0) := by
      have := rd_new (w.alloc robj0) rz0
      rwa [World.size_alloc] at this
    have HE : Hid (Ext w ((w.alloc robj0).alloc robj0)) := ((Ext.refl w).alloc _).alloc _
    generalize (w.alloc robj0).alloc robj0 = W at HB2 HB4 HE ⊢
    go_wp2_with fail
    refine (HSP.out W (HE.out.cell (p := ⟨0, 0, none⟩) hM0 |>.trans hm)).mono ?_
    rintro e w1 ⟨rfl, n, rfl⟩
    have hE1 : Ext W (W.drewN n) := (Ext.refl W).drewN n
    have HB2 := hide (HB2.out.ext hE1)
    have HB4 := hide (HB4.out.ext hE1)
    have HE := hide (HE.out.trans hE1)
    clear hE1
    generalize W.drewN n = W1 at HB2 HB4 HE ⊢
    clear HSP hm
    go_wp2_with fail
    refine (HMA.out W1).mono ?_
    rintro e W2 ⟨rfl, hE1⟩
    have HB2 := hide (HB2.out.ext hE1)
    have HB4 := hide (HB4.out.ext hE1)
    have HE := hide (HE.out.trans hE1)
    clear hE1 HMA
    rcases HMC.out with ⟨hc, hn⟩ | ⟨m, hc, hn⟩
    · rw [hc]
      have HR := hide (HN.out hn)
      obtain ⟨d0, d1, d2, d3, d4, d5, d6, dz⟩ := HB4.out.cells
      obtain ⟨e0, e1, e2, e3, e4, e5, e6, ez⟩ := HB2.out.cells
      obtain ⟨f0, f1, f2, f3, f4, f5, f6⟩ := HB2.out.frozen
      go_wp2_with fail
      exact bodyPost_ret (v := .tuple #[rz0.v, .bool false]) (results_rd2 rfl _ rfl rfl (HB2.out.store rz0)) rfl ⟨rz0, false, rfl, HE.out.rstore (by omega) rz0, .inr ⟨rfl, HR.out⟩⟩
    · rw [hc]
      have HR := hide (HS.out m hn)
      clear hc hn HN HS HMC
      obtain ⟨d0, d1, d2, d3, d4, d5, d6, dz⟩ := HB4.out.cells
      obtain ⟨f0, f1, f2, f3, f4, f5, f6⟩ := HB4.out.frozen
      have HB4 := hide (HB4.out.setF m)
      have HB2 := hide (HB2.out.other (by omega : w.heap.size ≠ w.heap.size + 1) 6 (.int .i64 m))
      have HE := hide (HE.out.setCell (p := ⟨w.heap.size + 1, 6, none⟩) (by show w.heap.size ≤ w.heap.size + 1; omega) (.int .i64 m))
      go_upto_region 8 with fail
      clear f0 f1 f2 f3 f4 f5 f6 d0 d1 d2 d3 d4 d5 d6 dz
      generalize W2.setCell ⟨w.heap.size + 1, 6, none⟩ (.int .i64 m) = W3 at HB2 HB4 HE ⊢
      go_wp2_with fail
      refine (HPA.out W3 HE.out).mono ?_
      rintro e W4 ⟨rfl, hE1⟩
      have HB2 := hide (HB2.out.ext hE1)
      have HB4 := hide (HB4.out.ext hE1)
      have HE := hide (HE.out.trans hE1)
      clear hE1
      go_upto_region 9 with fail
      have HG : Hid (GrBox (W4.alloc (gobj pg)) W4.heap.size pg) := gr_new W4 pg
      have HZ := hide (lt_of_heap HB4.out)
      have HB2 := hide (HB2.out.alloc (gobj pg))
      have HB4 := hide (HB4.out.alloc (gobj pg))
      have HE := hide (HE.out.alloc (gobj pg))
      generalize W4.alloc (gobj pg) = W5 at HG HB2 HB4 HE ⊢
      generalize W4.heap.size = gb at HG HZ ⊢
      obtain ⟨a0, a1, a2, a3, a4, a5, az⟩ := HG.out.cells
      obtain ⟨d0, d1, d2, d3, d4, d5, d6, dz⟩ := HB4.out.cells
      obtain ⟨f0, f1, f2, f3, f4, f5, f6⟩ := HB4.out.frozen
      go_upto_region 10 with fail
      clear a0 a1 a2 a3 a4 a5 az d0 d1 d2 d3 d4 d5 d6 dz f0 f1 f2 f3 f4 f5 f6 HG
      have HB4 := hide (HB4.out.gset pg)
      have HB2 : Hid (RdBox (gstore W5 (w.heap.size + 1) pg) w.heap.size rz0) := (heap_gstore (by omega) pg).trans HB2.out
      have HE := hide (HE.out.gstore (b := w.heap.size + 1) (by omega) pg)
      change Code.wp _ _ _ _ (gstore W5 (w.heap.size + 1) pg)
      generalize gstore W5 (w.heap.size + 1) pg = W6 at HB2 HB4 HE ⊢
      obtain ⟨d0, d1, d2, d3, d4, d5, d6, dz⟩ := HB4.out.cells
      obtain ⟨e0, e1, e2, e3, e4, e5, e6, ez⟩ := HB2.out.cells
      obtain ⟨f0, f1, f2, f3, f4, f5, f6⟩ := HB2.out.frozen
      by_cases he : pe = 0
      · subst he
        go_wp2_with fail
        exact bodyPost_ret (v := .tuple #[(⟨pg, m⟩ : Rd).v, .bool true]) (results_rd2 rfl _ rfl rfl (HB2.out.store ⟨pg, m⟩)) rfl ⟨⟨pg, m⟩, true, rfl, HE.out.rstore (by omega) ⟨pg, m⟩, .inl ⟨rfl, by rw [HR.out]; first | exact if_pos trivial | exact if_pos rfl⟩⟩
      · have hd : (pe == 0) = false := by simp [he]
        have HEE := hide he
        clear he
        go_wp2_with fail
        exact bodyPost_ret (v := .tuple #[(⟨pg, m⟩ : Rd).v, .bool false]) (results_rd2 rfl _ rfl rfl (HB2.out.store ⟨pg, m⟩)) rfl ⟨⟨pg, m⟩, false, rfl, HE.out.rstore (by omega) ⟨pg, m⟩, .inr ⟨rfl, by rw [HR.out]; exact if_neg HEE.out⟩⟩
  · have hcut : Lib.cut s.data.toList (⟨#[32, 33]⟩ : ByteArray).data.toList = (s.data.toList, [], false) := if_neg hi
    rw [hcut] at HSP
    have hself : (⟨s.data.toList.toArray⟩ : ByteArray) = s := rfl
    simp only [hself] at HSP
    have HR := hide (let_miss hi)
    have HPA := hide (fun W => HPA.out s W hs)
    generalize parseS s.data.toList = pr at HR HPA
    obtain ⟨pg, pe⟩ := pr
    generalize letS s.data.toList = res at HR ⊢
    clear hself hcut hi hlen hs HMA
    go_enter Tryd.func57, Tryd.ntmps57
    go_upto_region 2 with fail
    have HB2 : Hid (RdBox ((w.alloc robj0).alloc robj0) w.heap.size rz0) := (rd_new w rz0).alloc _
    have HB4 : Hid (RdBox ((w.alloc robj0).alloc robj0) (w.heap.size + 1) rz0) := by
      have := rd_new (w.alloc robj0) rz0
      rwa [World.size_alloc] at this
    have HE : Hid (Ext w ((w.alloc robj0).alloc robj0)) := ((Ext.refl w).alloc _).alloc _
    generalize (w.alloc robj0).alloc robj0 = W at HB2 HB4 HE ⊢
    go_wp2_with fail
    refine (HSP.out W (HE.out.cell (p := ⟨0, 0, none⟩) hM0 |>.trans hm)).mono ?_
    rintro e w1 ⟨rfl, n, rfl⟩
    have hE1 : Ext W (W.drewN n) := (Ext.refl W).drewN n
    have HB2 := hide (HB2.out.ext hE1)
    have HB4 := hide (HB4.out.ext hE1)
    have HE := hide (HE.out.trans hE1)
    clear hE1
    generalize W.drewN n = W3 at HB2 HB4 HE ⊢
    clear HSP hm
    go_wp2_with fail
    refine (HPA.out W3 HE.out).mono ?_
    rintro e W4 ⟨rfl, hE1⟩
    have HB2 := hide (HB2.out.ext hE1)
    have HB4 := hide (HB4.out.ext hE1)
    have HE := hide (HE.out.trans hE1)
    clear hE1
    go_upto_region 9 with fail
    have HG : Hid (GrBox (W4.alloc (gobj pg)) W4.heap.size pg) := gr_new W4 pg
    have HZ := hide (lt_of_heap HB4.out)
    have HB2 := hide (HB2.out.alloc (gobj pg))
    have HB4 := hide (HB4.out.alloc (gobj pg))
    have HE := hide (HE.out.alloc (gobj pg))
    generalize W4.alloc (gobj pg) = W5 at HG HB2 HB4 HE ⊢
    generalize W4.heap.size = gb at HG HZ ⊢
    obtain ⟨a0, a1, a2, a3, a4, a5, az⟩ := HG.out.cells
    obtain ⟨d0, d1, d2, d3, d4, d5, d6, dz⟩ := HB4.out.cells
    obtain ⟨f0, f1, f2, f3, f4, f5, f6⟩ := HB4.out.frozen
    go_upto_region 10 with fail
    clear a0 a1 a2 a3 a4 a5 az d0 d1 d2 d3 d4 d5 d6 dz f0 f1 f2 f3 f4 f5 f6 HG
    have HB4 := hide (HB4.out.gset pg)
    have HB2 : Hid (RdBox (gstore W5 (w.heap.size + 1) pg) w.heap.size rz0) := (heap_gstore (by omega) pg).trans HB2.out
    have HE := hide (HE.out.gstore (b := w.heap.size + 1) (by omega) pg)
    change Code.wp _ _ _ _ (gstore W5 (w.heap.size + 1) pg)
    generalize gstore W5 (w.heap.size + 1) pg = W6 at HB2 HB4 HE ⊢
    obtain ⟨d0, d1, d2, d3, d4, d5, d6, dz⟩ := HB4.out.cells
    obtain ⟨e0, e1, e2, e3, e4, e5, e6, ez⟩ := HB2.out.cells
    obtain ⟨f0, f1, f2, f3, f4, f5, f6⟩ := HB2.out.frozen
    by_cases he : pe = 0
    · subst he
      go_wp2_with fail
      exact bodyPost_ret (v := .tuple #[(⟨pg, 0⟩ : Rd).v, .bool true]) (results_rd2 rfl _ rfl rfl (HB2.out.store ⟨pg, 0⟩)) rfl ⟨⟨pg, 0⟩, true, rfl, HE.out.rstore (by omega) ⟨pg, 0⟩, .inl ⟨rfl, by rw [HR.out]; first | exact if_pos trivial | exact if_pos rfl⟩⟩
    · have hd : (pe == 0) = false := by simp [he]
      have HEE := hide he
      clear he
      go_wp2_with fail
      exact bodyPost_ret (v := .tuple #[(⟨pg, 0⟩ : Rd).v, .bool false]) (results_rd2 rfl _ rfl rfl (HB2.out.store ⟨pg, 0⟩)) rfl ⟨⟨pg, 0⟩, false, rfl, HE.out.rstore (by omega) ⟨pg, 0⟩, .inr ⟨rfl, by rw [HR.out]; exact if_neg HEE.out⟩⟩

/-- What Parse yields. -/
def RetPs (x : List Rd × Int) (w : World) (e : Ending) (w' : World) : Prop := ∃ v, e = .returned (.tuple #[v, .int .i64 x.2]) ∧ Own Rd.cells 7 w' w.heap.size 26 v x.1 ∧ Ext w w'
theorem countFrom_le (sub : List UInt8) : ∀ (f : Nat) (s : List UInt8), Lib.countFrom sub f s ≤ f
  | 0, _ => Nat.le_refl _
  | f + 1, s => by
    unfold Lib.countFrom
    split
    · exact Nat.zero_le _
    · have := countFrom_le sub f (s.drop ((Lib.index s sub).toNat + sub.length))
      omega
theorem countB_le (s : ByteArray) (t : ByteArray) : Lib.countB s t ≤ s.size + 1 := by
  have h := countFrom_le t.data.toList (s.data.toList.length + 1) s.data.toList
  have h2 : s.data.toList.length = s.size := Array.length_toList
  rw [h2] at h
  exact h
theorem splitW_parts (s : ByteArray) : (Lib.splitB ⟨#[32, 47, 32]⟩ 0 (Lib.countB s ⟨#[32, 47, 32]⟩) s).map (·.data.toList) = Lib.split s.data.toList sepW := by
  rw [Lib.splitB_data]; rfl
theorem splitW_len (s : ByteArray) : (Lib.split s.data.toList sepW).length = Lib.countB s ⟨#[32, 47, 32]⟩ + 1 := by
  rw [← splitW_parts, List.length_map, Lib.splitB_all _ (by decide) _ _ _ rfl]
theorem lets_snoc : ∀ {P : List (List UInt8)} {L : List Rd} {x : List UInt8} {r : Rd}, letsS P = some L → letS x = some r → letsS (P ++ [x]) = some (L ++ [r])
  | [], L, x, r, h, hx => by
    obtain rfl : [] = L := Option.some.inj h
    show (match letS x with | none => none | some r => match letsS [] with | none => none | some l => some (r :: l)) = _
    rw [hx]; rfl
  | y :: P, L, x, r, h, hx => by
    show (match letS y with | none => none | some r => match letsS (P ++ [x]) with | none => none | some l => some (r :: l)) = _
    change (match letS y with | none => none | some r => match letsS P with | none => none | some l => some (r :: l)) = _ at h
    cases hy : letS y with
    | none => rw [hy] at h; cases h
    | some q =>
      rw [hy] at h
      cases hP : letsS P with
      | none => rw [hP] at h; cases h
      | some M =>
        rw [hP] at h
        obtain rfl : q :: M = L := Option.some.inj h
        rw [lets_snoc hP hx]; rfl
theorem lets_fail : ∀ {P : List (List UInt8)} {x : List UInt8}, x ∈ P → letS x = none → letsS P = none
  | y :: P, x, h, hx => by
    show (match letS y with | none => none | some r => match letsS P with | none => none | some l => some (r :: l)) = _
    rcases List.mem_cons.1 h with h | h
    · rw [← h, hx]
    · rw [lets_fail h hx]
      cases letS y <;> rfl
theorem parseW_n {n : Int} {s : List UInt8} (h : n < 1 ∨ 5 < n) : parseW n s = ([], 1) := if_pos h
theorem parseW_long {n : Int} {s : List UInt8} (h : ¬ (n < 1 ∨ 5 < n)) (h2 : 65536 < s.length) : parseW n s = ([], 13) := by unfold parseW; rw [if_neg h, if_pos h2]
theorem parseW_none {n : Int} {s : List UInt8} (h : ¬ (n < 1 ∨ 5 < n)) (h2 : ¬ 65536 < s.length) (h3 : s = noneT) : parseW n s = ([], 0) := by unfold parseW; rw [if_neg h, if_neg h2, if_pos h3]
theorem parseW_bad {n : Int} {s : List UInt8} (h : ¬ (n < 1 ∨ 5 < n)) (h2 : ¬ 65536 < s.length) (h3 : s ≠ noneT) (h4 : letsS (Lib.split s sepW) = none) : parseW n s = ([], 4) := by unfold parseW; rw [if_neg h, if_neg h2, if_neg h3, h4]
theorem parseW_ok {n : Int} {s : List UInt8} {l : List Rd} (h : ¬ (n < 1 ∨ 5 < n)) (h2 : ¬ 65536 < s.length) (h3 : s ≠ noneT) (h4 : letsS (Lib.split s sepW) = some l) : parseW n s = if wordE n l ≠ 0 then ([], wordE n l) else (l, 0) := by unfold parseW; rw [if_neg h, if_neg h2, if_neg h3, h4]
set_option maxRecDepth 16000 in
set_option maxHeartbeats 2000000 in
theorem rdparse_any (n : Int) (s : ByteArray) (hs : s.size ≤ 1000000) (w : World) (hT : Tz w) (hM : Ml w) : Calls Tryd.prog 25 #[.int .i64 n, .string s] w (RetPs (parseW n s.data.toList) w) := by
  have hlen : s.data.toList.length = s.size := Array.length_toList
  have HN := hide (fun W => rdnumber_any n W)
  by_cases hn : n < 1 ∨ 5 < n
  case pos =>
    have hp : procs n = 1 := if_pos hn
    rw [hp] at HN
    have HR := hide (parseW_n (s := s.data.toList) hn)
    generalize parseW n s.data.toList = res at HR ⊢
    clear hn hp
    go_enter Tryd.func25, Tryd.ntmps25
    go_wp2_with fail
    refine (HN.out _).mono ?_
    rintro e w1 ⟨rfl, rfl⟩
    go_wp2_with fail
    go_ret2
    exact ⟨.slice none 0 0, by rw [HR.out]; rfl, by rw [HR.out]; exact Own.nil _ _ _ (fun _ => rfl), Ext.refl _⟩
  case neg =>
  have hp : procs n = 0 := if_neg hn
  rw [hp] at HN
  by_cases hbig : 65536 < s.size
  · have HR := hide (parseW_long (s := s.data.toList) hn (by omega))
    generalize parseW n s.data.toList = res at HR ⊢
    clear hn hp
    go_enter Tryd.func25, Tryd.ntmps25
    go_wp2_with fail
    refine (HN.out _).mono ?_
    rintro e w1 ⟨rfl, rfl⟩
    go_wp2_with fail
    go_ret2
    exact ⟨.slice none 0 0, by rw [HR.out]; rfl, by rw [HR.out]; exact Own.nil _ _ _ (fun _ => rfl), Ext.refl _⟩
  by_cases hnone : s.data.toList = noneT
  · have HR := hide (parseW_none (s := s.data.toList) hn (by omega) hnone)
    have hd : s.toList = [110, 111, 110, 101] := by rw [ByteArray.toList_eq]; exact hnone
    generalize parseW n s.data.toList = res at HR ⊢
    clear hn hp hnone
    go_enter Tryd.func25, Tryd.ntmps25
    go_wp2_with fail
    refine (HN.out _).mono ?_
    rintro e w1 ⟨rfl, rfl⟩
    go_wp2_with fail
    go_ret2
    exact ⟨.slice none 0 0, by rw [HR.out]; rfl, by rw [HR.out]; exact Own.nil _ _ _ (fun _ => rfl), Ext.refl _⟩
  have hd : (s.toList == [110, 111, 110, 101]) = false := by
    rw [beq_eq_false_iff_ne, ByteArray.toList_eq]; exact hnone
  have hM' : Hid (Ml w) := hM
  have hT := hide hT
  obtain ⟨hM0, m, hm⟩ := hM
  have HSP := hide (fun W hc => Sstrings_Split s ⟨#[32, 47, 32]⟩ m W (by omega) hc (by decide))
  have HL := hide (splitW_len s)
  have hparts := splitW_parts s
  have HCL := hide (countB_le s ⟨#[32, 47, 32]⟩)
  generalize Lib.splitB ⟨#[32, 47, 32]⟩ 0 (Lib.countB s ⟨#[32, 47, 32]⟩) s = xs at HSP hparts
  have HXL : Hid (xs.length = Lib.countB s ⟨#[32, 47, 32]⟩ + 1) := by show _ = _; rw [← HL.out, ← hparts, List.length_map]
  have HK : Hid (Lib.countB s ⟨#[32, 47, 32]⟩ + 1 ≤ 1000002) := by have := HCL.out; show _ ≤ _; omega
  clear HCL
  generalize Lib.countB s ⟨#[32, 47, 32]⟩ + 1 = K at HSP HL HXL HK
  have HPT := hide hparts
  have HXS : Hid (∀ x ∈ xs, x.size ≤ 1000000) := fun x hx => by
    have h1 : x.data.toList ∈ Lib.split s.data.toList sepW := by rw [← HPT.out]; exact List.mem_map_of_mem hx
    have h2 := splitK_len _ _ _ _ _ h1
    have h3 : x.data.toList.length = x.size := Array.length_toList
    omega
  have HBAD := hide (parseW_bad (n := n) (s := s.data.toList) hn (by omega) hnone)
  have HOK := hide (fun l => parseW_ok (n := n) (s := s.data.toList) (l := l) hn (by omega) hnone)
  generalize parseW n s.data.toList = res at HBAD HOK ⊢
  generalize Lib.split s.data.toList sepW = P at HL HPT HBAD HOK
  have HNT := hide hd
  clear hparts hn hp hnone hd hlen
  go_enter Tryd.func25, Tryd.ntmps25
  go_wp2_with fail
  refine (HN.out _).mono ?_
  rintro e w1 ⟨rfl, rfl⟩
  have hd := HNT.out
  have hbg : decide ((65536 : Int) < (s.size : Int)) = false := by simp; omega
  go_wp2_with fail
  clear hd hbg
  refine (HSP.out _ hm).mono ?_
  rintro e w2 ⟨rfl, hw2⟩
  have HE0 : Hid (Ext w1 w2) := by show Ext _ _; rw [hw2]; exact (Ext.refl _).alloc _
  have HX0 : Hid (w2.heap[w1.heap.size]? = some (.cells (xs.map Value.string).toArray 9 (0, 0))) := by show _ = _; rw [hw2]; exact heap_alloc_new _ _
  clear hw2 HSP hm
  have HKI : Hid ((K : Int) ≤ 1000002) := by have := HK.out; show _ ≤ _; omega
  have HZ0 := hide (lt_of_heap HX0.out)
  have HO : Hid (Own Rd.cells 7 w2 w2.heap.size 26 (.slice none 0 0) []) := Own.nil _ _ _ (fun _ => rfl)
  go_wp2_with fail
  go_loopw [28, 7, 9, 10, 11] (fun x u _ _ _ V => ∃ (i : Nat) (L : List Rd), i ≤ K ∧ x = .int .i64 i ∧ Hid (L.length = i ∧ letsS (P.take i) = some L) ∧ Hid (Ext w2 V) ∧ Hid (Own Rd.cells 7 V w2.heap.size 26 u L)) (fun x _ _ _ _ _ => K - (intOf x).toNat)
  case atStart => exact ⟨0, [], by omega, rfl, ⟨rfl, rfl⟩, Ext.refl _, HO⟩
  case round =>
    clear HO
    obtain ⟨i, L, hi, rfl, HL2, HE, HO⟩ := hrel
    have HX := hide ((HE.out.b.block _ HZ0.out).trans HX0.out)
    by_cases hlt : i < K
    · obtain ⟨x, hx, hxl⟩ : ∃ x : ByteArray, xs[i]? = some x ∧ P[i]? = some x.data.toList := by
        have h1 : i < xs.length := by rw [HXL.out]; exact hlt
        refine ⟨xs[i], List.getElem?_eq_getElem h1, ?_⟩
        rw [← HPT.out, List.getElem?_map, List.getElem?_eq_getElem h1]; rfl
      have hcx : wr.cell? ⟨w1.heap.size, i, none⟩ = some (.string x) := by
        rw [cell_of_row _ _ _ _ _ _ HX.out, List.getElem?_toArray, List.getElem?_map, hx]; rfl
      have hbx := lt_of_heap HX.out
      have HC := hide (letter_any x (HXS.out x (List.mem_of_getElem? hx)))
      have HXL2 := hide hxl
      clear hx hxl
      have hKI := HKI.out
      go_wp2_with fail
      refine (HC.out wr (hT.out.ext (HE0.out.trans HE.out)) (Ml.ext hM'.out (HE0.out.trans HE.out))).mono ?_
      rintro e W ⟨r, b, rfl, hE, hb⟩
      have HE2 := hide (HE.out.trans hE)
      have HO := hide (HO.out.ext hE)
      have HB := hide hb
      clear hE hb HC hcx hbx HE HX
      have hlL : L.length ≤ 1000002 := by have := HL2.out.1; have := HK.out; omega
      obtain ⟨su, sc, hsl⟩ := HO.out.sl
      cases b with
      | false =>
        have HR : Hid (res = ([], 4)) := HBAD.out (lets_fail (List.mem_of_getElem? HXL2.out) (by
          rcases HB.out with ⟨h, _⟩ | ⟨_, h⟩
          · cases h
          · exact h))
        go_wp2_with fail
        go_ret2
        exact ⟨.slice none 0 0, by rw [HR.out]; rfl, by rw [HR.out]; exact Own.nil _ _ _ (fun _ => rfl), HE0.out.trans (HE2.out.alloc _)⟩
      | true =>
        have HSN : Hid (letsS (P.take (i + 1)) = some (L ++ [r])) := by
          show _ = _
          have h1 : P.take (i + 1) = P.take i ++ [x.data.toList] := by
            rw [List.take_add_one, HXL2.out]; rfl
          rw [h1]
          refine lets_snoc HL2.out.2 ?_
          rcases HB.out with ⟨_, h⟩ | ⟨h, _⟩
          · exact h
          · cases h
        clear HB
        subst hsl
        go_upto_region 15 with fail
        have HE3 := hide (HE2.out.alloc (robj r))
        have HO := hide (HO.out.alloc (robj r))
        have HBX : Hid (RdBox (W.alloc (robj r)) W.heap.size r) := rd_new W r
        change Code.wp _ _ _ _ (W.alloc (robj r))
        generalize W.alloc (robj r) = W3 at HE3 HO HBX ⊢
        generalize W.heap.size = b10 at HBX ⊢
        clear HE2
        obtain ⟨c0, c1, c2, c3, c4, c5, c6, cz⟩ := HBX.out.cells
        go_wp2_with (at_builtin; refine wpList_append1 rfl (.tmp 39) (.tmp 41) 35 rfl w2.heap.size 26 (Rd.v default) 7 56 Tryd.underlying35 rd_info rfl (by decide) _ L r W3.heap.size rfl (HO.out.alloc _) rfl (rd_new_cells _ _) (rd_ones r) (by omega) (by decide) (by simp only [World.size_alloc]; have := HE3.out.size; omega) ?_; intro v' W6 hown' hg6 hf6; obtain ⟨g7, c7, rfl, -⟩ := hf6)
        have hge := HO.out.block_ge
        have HE6 : Hid (Ext w2 W6) := (HE3.out.alloc _).grown hg6 (fun k hk => by have := hge k hk; omega)
        have HFIN := hide hown'
        clear hge hown' hg6 c0 c1 c2 c3 c4 c5 c6 cz
        have HLN := hide HL2.out.1
        go_wp2_with fail
        go_roundw
        case rel => exact ⟨i + 1, L ++ [r], by omega, by go_num, ⟨by rw [List.length_append, HLN.out]; rfl, HSN.out⟩, HE6, HFIN⟩
        case measure => simp [intOf]; omega
    · obtain rfl : i = K := by omega
      have HLN := hide HL2.out.1
      have HLE := hide (fun hl => HO.out.row hl)
      have HLL : Hid (L.length ≤ 17592186044416) := by show _ ≤ _; rw [HLN.out]; have := HK.out; omega
      have HLS := HL2.out.2
      rw [show P.take i = P from List.take_of_length_le (by rw [HL.out]; exact Nat.le_refl _)] at HLS
      have HRES := hide (HOK.out L HLS)
      clear HLS
      have HWD := hide (fun W (hE : Ext wr W) => rword_any n L u7 W ((HO.out.row HLL.out).ext hE))
      go_wp2_with fail
      refine (HWD.out wr (Ext.refl _)).mono ?_
      rintro e W ⟨rfl, hE⟩
      have HEF := hide (HE0.out.trans (HE.out.trans hE))
      have HOF := hide ((HO.out.ext hE).mono HE0.out.size)
      clear hE HWD HLE HBAD HOK HO
      by_cases he : wordE n L = 0
      · have HRR : Hid (res = (L, 0)) := by show _ = _; rw [HRES.out]; exact if_neg (fun k => k he)
        rw [he]
        clear he HRES
        go_wp2_with fail
        go_ret2
        exact ⟨u7, by rw [HRR.out]; rfl, by rw [HRR.out]; exact HOF.out, HEF.out⟩
      · have HRR : Hid (res = ([], wordE n L)) := by show _ = _; rw [HRES.out]; exact if_pos he
        generalize wordE n L = x at he HRR ⊢
        have hd : (x != 0) = true := by simp [he]
        clear he HRES
        go_wp2_with fail
        go_ret2
        exact ⟨.slice none 0 0, by rw [HRR.out]; rfl, by rw [HRR.out]; exact Own.nil _ _ _ (fun _ => rfl), HEF.out⟩
end Go.Proofs.YtfnhjalnbmnlaaaDoor
