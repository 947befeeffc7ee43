/-
  The reference's digits, letter and Parse of words.
  Conditions: the tables lie in the heap (Tz, Ml).
-/
import Derived.Test.YtfnhjalnbmnlaaaDoorRdPars
import Derived.Test.YtfnhjalnbmnlaaaDoorRPars
namespace Go.Proofs.YtfnhjalnbmnlaaaDoor
open Go.RowKit
attribute [local go_sem] Oper.semAt_some

theorem mskS_ten {c : UInt8} {r : List UInt8} {o : Nat} : mskS (c :: r) o 10 = none := if_neg (by omega)
theorem mskS_skip {c : UInt8} {r : List UInt8} {o d : Nat} (h : c.toNat ≠ 48 + d) : mskS (c :: r) o d = mskS (c :: r) o (d + 1) := by
  by_cases h1 : c.toNat < 48 + d
  · rw [mskS_lo h1, mskS_lo (by omega)]
  · by_cases h2 : 57 < c.toNat
    · rw [mskS_hi h2, mskS_hi h2]
    · rw [mskS_ok (by omega) (by omega), mskS_ok (by omega) (by omega)]
theorem mskS_take {c : UInt8} {r : List UInt8} {o d : Nat} (hd : d < 10) (ho : o < 2 ^ d) (h : c.toNat = 48 + d) : mskS (c :: r) o d = mskS r (o + 2 ^ d) (d + 1) := by
  rw [mskS_ok (by omega) (by omega), h, Nat.add_sub_cancel_left]
  congr 1
  have h1 := Nat.two_pow_add_eq_or_of_lt ho 1
  rw [Nat.mul_one] at h1
  rw [Nat.or_comm, ← h1, Nat.add_comm]
/-- What digits yields. -/
def RetD (o : Option Nat) (w : World) (e : Ending) (w' : World) : Prop := ∃ (m : Nat) (b : Bool), e = .returned (.tuple #[.int .i64 m, .bool b]) ∧ w' = w ∧ ((b = true ∧ o = some m) ∨ (b = false ∧ o = none))
theorem pow_dbl (d : Nat) : ((2 ^ d : Nat) : Int) * 2 = ((2 ^ (d + 1) : Nat) : Int) := by rw [Nat.pow_succ]; omega
set_option maxRecDepth 16000 in
set_option maxHeartbeats 2000000 in
theorem digits_any (s : ByteArray) (hs : s.size ≤ 1000000) (w : World) : Calls Tryd.prog 94 #[.string s] w (RetD (maskS s.data.toList) w) := by
  have hlen : s.data.toList.length = s.size := Array.length_toList
  have HNIL : Hid (s.data.toList = [] → maskS s.data.toList = none) := fun h => if_pos h
  have HCON : Hid (s.data.toList ≠ [] → maskS s.data.toList = mskS s.data.toList 0 0) := fun h => if_neg h
  generalize maskS s.data.toList = res at HNIL HCON ⊢
  have HLN := hide hlen
  have hsI : (s.size : Int) ≤ 1000000 := by omega
  clear hlen
  go_enter Tryd.func94, Tryd.ntmps94
  go_wp2_with fail
  go_loop [7, 4, 5, 6] (fun x m b k => ∃ (d mask next : Nat), d ≤ 10 ∧ x = .int .i64 d ∧ m = .int .i64 mask ∧ b = .int .i64 (2 ^ d : Nat) ∧ k = .int .i64 next ∧ next ≤ s.size ∧ mask < 2 ^ d ∧ Hid (mskS s.data.toList 0 0 = mskS (s.data.toList.drop next) mask d)) (fun x _ _ _ => 10 - (intOf x).toNat)
  case atStart => exact ⟨0, 0, 0, by omega, rfl, rfl, rfl, rfl, by omega, by decide, by show _ = _; rw [List.drop_zero]⟩
  case round =>
    obtain ⟨d, mask, next, hd, rfl, rfl, rfl, rfl, hn, hm, HM⟩ := hrel
    by_cases hlt : d < 10
    · have hp10 : 2 ^ d ≤ 2 ^ 9 := Nat.pow_le_pow_right (by decide) (by omega)
      have hp10I : ((2 ^ d : Nat) : Int) ≤ 512 := by have : (2 : Nat) ^ 9 = 512 := rfl; omega
      have hmI : (mask : Int) ≤ 512 := by have : (2 : Nat) ^ 9 = 512 := rfl; omega
      have hdb := pow_dbl d
      have HP := hide hm
      by_cases hnx : next < s.size
      · have hnxl : next < s.data.toList.length := by rw [HLN.out]; exact hnx
        have HD := hide (List.drop_eq_getElem_cons hnxl)
        have hcc : s.data.toList[next] = s[next] := rfl
        rw [hcc] at HD
        have h256 : s[next].toNat < 256 := s[next].toNat_lt
        have hw : wrap64 (s[next].toNat : Int) = (s[next].toNat : Int) := by unfold wrap64; omega
        by_cases hq : s[next].toNat = 48 + d
        · have hd1 : (wrap64 (s[next].toNat : Int) == 48 + (d : Int)) = true := by rw [hw, beq_iff_eq]; omega
          have HM2 : Hid (mskS s.data.toList 0 0 = mskS (s.data.toList.drop (next + 1)) (mask + 2 ^ d) (d + 1)) := by
            show _ = _
            rw [HM.out, HD.out, mskS_take hlt HP.out hq]
          have hm2 : mask + 2 ^ d < 2 ^ (d + 1) := by rw [Nat.pow_succ]; omega
          have HM3 := hide hm2
          clear HM hq hw h256 HD HP hcc hm2 hm hp10
          generalize hpd : 2 ^ d = y at hp10I hdb HM2 HM3
          generalize hz : 2 ^ (d + 1) = z at hdb HM3
          have HZ := hide hz
          clear hpd hz
          go_wp2_with fail
          go_round
          case rel => exact ⟨d + 1, mask + y, next + 1, by omega, by go_num, by go_num, by rw [HZ.out], by go_num, by omega, by rw [HZ.out]; exact HM3.out, HM2⟩
          case measure => simp [intOf]; omega
        · have hd1 : (wrap64 (s[next].toNat : Int) == 48 + (d : Int)) = false := by rw [hw, beq_eq_false_iff_ne]; omega
          have HM2 : Hid (mskS s.data.toList 0 0 = mskS (s.data.toList.drop next) mask (d + 1)) := by
            show _ = _
            rw [HM.out, HD.out, mskS_skip hq]
          have HM3 : Hid (mask < 2 ^ (d + 1)) := by show _ < _; rw [Nat.pow_succ]; omega
          clear HM hq hw h256 HD HP hcc hm hp10
          generalize hpd : 2 ^ d = y at hp10I hdb
          generalize hz : 2 ^ (d + 1) = z at hdb HM3
          have HZ := hide hz
          clear hpd hz
          go_wp2_with fail
          go_round
          case rel => exact ⟨d + 1, mask, next, by omega, by go_num, rfl, by rw [HZ.out], rfl, by omega, by rw [HZ.out]; exact HM3.out, HM2⟩
          case measure => simp [intOf]; omega
      · have HD : Hid (s.data.toList.drop next = []) := List.drop_eq_nil_of_le (by rw [HLN.out]; omega)
        have hd1 : decide ((next : Int) < (s.size : Int)) = false := by simp; omega
        have HM2 : Hid (mskS s.data.toList 0 0 = mskS (s.data.toList.drop next) mask (d + 1)) := by
          show _ = _
          rw [HM.out, HD.out]; rfl
        have HM3 : Hid (mask < 2 ^ (d + 1)) := by show _ < _; rw [Nat.pow_succ]; omega
        clear HM HD HP hm hp10
        generalize hpd : 2 ^ d = y at hp10I hdb
        generalize hz : 2 ^ (d + 1) = z at hdb HM3
        have HZ := hide hz
        clear hpd hz
        go_wp2_with fail
        go_round
        case rel => exact ⟨d + 1, mask, next, by omega, by go_num, rfl, by rw [HZ.out], rfl, by omega, by rw [HZ.out]; exact HM3.out, HM2⟩
        case measure => simp [intOf]; omega
    · obtain rfl : d = 10 := by omega
      by_cases hnx : next = s.size
      · have HD : Hid (s.data.toList.drop next = []) := List.drop_eq_nil_of_le (by rw [HLN.out]; omega)
        by_cases h0 : 0 < next
        · have HR : Hid (res = some mask) := by
            show _ = _
            rw [HCON.out (fun k => by rw [k] at HLN; have := HLN.out; simp at this; omega), HM.out, HD.out]; rfl
          have hd1 : ((next : Int) == (s.size : Int)) = true := by rw [beq_iff_eq]; omega
          have hd2 : decide (0 < next) = true := decide_eq_true h0
          clear hnx h0
          go_wp2_with fail
          go_ret2
          exact ⟨mask, true, rfl, rfl, .inl ⟨rfl, HR.out⟩⟩
        · have HR : Hid (res = none) := HNIL.out (List.eq_nil_of_length_eq_zero (by rw [HLN.out]; omega))
          have hd1 : ((next : Int) == (s.size : Int)) = true := by rw [beq_iff_eq]; omega
          have hd2 : decide (0 < next) = false := decide_eq_false h0
          clear hnx h0
          go_wp2_with fail
          go_ret2
          exact ⟨mask, false, rfl, rfl, .inr ⟨rfl, HR.out⟩⟩
      · have hnxl : next < s.data.toList.length := by rw [HLN.out]; omega
        have HR : Hid (res = none) := by
          show _ = _
          rw [HCON.out (fun k => by rw [k] at hnxl; simp at hnxl), HM.out, List.drop_eq_getElem_cons hnxl, mskS_ten]
        have hd1 : ((next : Int) == (s.size : Int)) = false := by rw [beq_eq_false_iff_ne]; omega
        clear hnx hnxl
        go_wp2_with fail
        go_ret2
        exact ⟨mask, false, rfl, rfl, .inr ⟨rfl, HR.out⟩⟩
theorem ext_drop (s : ByteArray) (k : Nat) : (s.extract k s.size).data.toList = s.data.toList.drop k := by
  have h : s.data.toList.length = s.size := Array.length_toList
  rw [ByteArray.data_extract, Array.toList_extract, List.extract_eq_take_drop]
  exact List.take_of_length_le (by rw [List.length_drop]; omega)
theorem ext_take (s : ByteArray) (k : Nat) : (s.extract 0 k).data.toList = s.data.toList.take k := by
  simp [ByteArray.data_extract]
set_option maxRecDepth 16000 in
set_option maxHeartbeats 2000000 in
theorem rletter_any (s : ByteArray) (hs : s.size ≤ 1000000) (w : World) (hM : Ml w) : Calls Tryd.prog 58 #[.string s] w (RetLt (letS s.data.toList) w) := by
  obtain ⟨hM0, m, hm⟩ := hM
  have HSP := hide (fun W hc => Sstrings_Index s ⟨#[32, 33]⟩ m W (by omega) hc)
  have hlen : s.data.toList.length = s.size := Array.length_toList
  have HPA := hide (fun (x : ByteArray) (hx : x.size ≤ 1000000) W => rparse_any x hx W)
  have HDG := hide (fun (x : ByteArray) (hx : x.size ≤ 1000000) W => digits_any x hx W)
  rw [show (⟨#[32, 33]⟩ : ByteArray).data.toList = [32, 33] from rfl] at HSP
  by_cases hi : 0 ≤ Lib.index s.data.toList [32, 33]
  · have hroom := Lib.index_room s.data.toList [32, 33] hi
    have HN := hide (let_none hi)
    have HS := hide (fun (m : Nat) h => let_some (m := m) hi h)
    generalize Lib.index s.data.toList [32, 33] = ix at hi hroom HSP HN HS
    obtain ⟨k, rfl⟩ : ∃ k : Nat, ix = k := ⟨ix.toNat, by omega⟩
    rw [Int.toNat_natCast] at HN HS
    have hroom : k + 2 ≤ s.size := by have : ([32, 33] : List UInt8).length = 2 := rfl; omega
    have HXD := hide (ext_drop s (k + 2))
    have HXT := hide (ext_take s k)
    have hsa : (s.extract 0 k).size ≤ 1000000 := by
      have h1 : (s.extract 0 k).data.toList.length = (s.extract 0 k).size := Array.length_toList
      rw [HXT.out] at h1
      have := List.length_take_le' k s.data.toList
      omega
    have hsb : (s.extract (k + 2) s.size).size ≤ 1000000 := by
      have h1 : (s.extract (k + 2) s.size).data.toList.length = (s.extract (k + 2) s.size).size := Array.length_toList
      rw [HXD.out, List.length_drop] at h1
      omega
    have HPA := hide (fun W => HPA.out _ hsa W)
    have HDG := hide (fun W => HDG.out _ hsb W)
    rw [HXT.out] at HPA
    rw [HXD.out] at HDG
    generalize parseS (s.data.toList.take k) = pr at HS HPA
    obtain ⟨pg, pe⟩ := pr
    generalize letS s.data.toList = res at HN HS ⊢
    generalize maskS (s.data.toList.drop (k + 2)) = mm at HDG HN HS
    clear hsa hsb hlen hi
    have hkI : (k : Int) + 2 ≤ s.size := by omega
    have hsI : (s.size : Int) ≤ 1000000 := by omega
    go_enter Tryd.func58, Tryd.ntmps58
    go_upto_region 2 with fail
    have HB2 : Hid (RdBox ((w.alloc robj0).alloc robj0) w.heap.size rz0) := (rd_new w rz0).alloc _
    have HB4 : Hid (RdBox ((w.alloc robj0).alloc robj0) (w.heap.size + 1) rz0) := by
      have := rd_new (w.alloc robj0) rz0
      rwa [World.size_alloc] at this
    have HE : Hid (Ext w ((w.alloc robj0).alloc robj0)) := ((Ext.refl w).alloc _).alloc _
    generalize (w.alloc robj0).alloc robj0 = W at HB2 HB4 HE ⊢
    go_wp2_with fail
    refine (HSP.out W (HE.out.cell (p := ⟨0, 0, none⟩) hM0 |>.trans hm)).mono ?_
    rintro e w1 ⟨rfl, rfl⟩
    clear HSP hm
    go_wp2_with fail
    refine (HDG.out _).mono ?_
    rintro e W2 ⟨m, b, rfl, rfl, hb⟩
    rcases hb with ⟨rfl, hn⟩ | ⟨rfl, hn⟩
    · have HR := hide (HS.out m hn)
      clear hn HN HS HDG
      go_upto_region 7 with fail
      refine wp_region_heldAll (fun _ => True) (by kernel_rfl) ?_
      intro W5 hW_
      have hE5 : Ext W2 W5 := by rw [hW_]; exact (Ext.refl W2).drew
      clear hW_
      have HB2 := hide (HB2.out.ext hE5)
      have HB4 := hide (HB4.out.ext hE5)
      have HE := hide (HE.out.trans hE5)
      clear hE5
      refine wpAnyT_take (i := 0) (.int .i64 m) rfl (by kernel_rfl) (by kernel_rfl) (by kernel_rfl) (by simp [Region.wanted]) (fun V hV => by go_simp) trivial ?_
      try simp only [Act.put, List.getElem_toArray, List.getElem_cons_zero, List.setIfInBounds_toArray, List.set_cons_zero, List.set_cons_succ]
      refine wpAnyT_take (i := 1) (.string s) rfl (by kernel_rfl) (by kernel_rfl) (by kernel_rfl) (by simp [Region.wanted]) (fun V hV => by go_simp) trivial ?_
      try simp only [Act.put, List.getElem_toArray, List.getElem_cons_zero, List.getElem_cons_succ, List.setIfInBounds_toArray, List.set_cons_zero, List.set_cons_succ]
      refine wpAnyT_take (i := 2) (.int .i64 k) rfl (by kernel_rfl) (by kernel_rfl) (by kernel_rfl) (by simp [Region.wanted]) (fun V hV => by go_simp) trivial ?_
      try simp only [Act.put, List.getElem_toArray, List.getElem_cons_zero, List.getElem_cons_succ, List.setIfInBounds_toArray, List.set_cons_zero, List.set_cons_succ]
      refine wpAnyT_take (i := 3) (.string (s.extract 0 k)) rfl (by kernel_rfl) (by kernel_rfl) (by kernel_rfl) (by simp [Region.wanted]) (fun V hV => by
        go_simp
        intro h
        omega) trivial ?_
      try simp only [Act.put, List.getElem_toArray, List.getElem_cons_zero, List.getElem_cons_succ, List.setIfInBounds_toArray, List.set_cons_zero, List.set_cons_succ]
      refine wpAnyT_take (i := 4) (.pointer (some ⟨w.heap.size + 1, 6, none⟩)) rfl (by kernel_rfl) (by kernel_rfl) (by kernel_rfl) (by simp [Region.wanted]) (fun V hV => by go_simp) trivial ?_
      try simp only [Act.put, List.getElem_toArray, List.getElem_cons_zero, List.getElem_cons_succ, List.setIfInBounds_toArray, List.set_cons_zero, List.set_cons_succ]
      obtain ⟨d0, d1, d2, d3, d4, d5, d6, dz⟩ := HB4.out.cells
      obtain ⟨f0, f1, f2, f3, f4, f5, f6⟩ := HB4.out.frozen
      refine wpAnyT_one (i := 5) rfl (by kernel_rfl) (fun K hK => ?_)
      go_wp2_with fail
      refine ⟨rfl, hK _ _ trivial ?_⟩
      clear hK K
      try simp only [Act.put, List.getElem_toArray, List.getElem_cons_zero, List.getElem_cons_succ, List.setIfInBounds_toArray, List.set_cons_zero, List.set_cons_succ]
      refine wpAnyT_take (i := 6) (.string (s.extract 0 k)) rfl (by kernel_rfl) (by kernel_rfl) (by kernel_rfl) (by simp [Region.wanted]) (fun V hV => by go_simp) trivial ?_
      try simp only [Act.put, List.getElem_toArray, List.getElem_cons_zero, List.getElem_cons_succ, List.setIfInBounds_toArray, List.set_cons_zero]
      refine wpAnyT_done (by kernel_rfl) ?_ _
      clear f0 f1 f2 f3 f4 f5 f6 d0 d1 d2 d3 d4 d5 d6 dz
      have HB4 := hide (HB4.out.setF m)
      have HB2 := hide (HB2.out.other (by omega : w.heap.size ≠ w.heap.size + 1) 6 (.int .i64 m))
      have HE := hide (HE.out.setCell (p := ⟨w.heap.size + 1, 6, none⟩) (by show w.heap.size ≤ w.heap.size + 1; omega) (.int .i64 m))
      generalize W5.setCell ⟨w.heap.size + 1, 6, none⟩ (.int .i64 m) = W3 at HB2 HB4 HE ⊢
      go_wp2_with fail
      refine (HPA.out W3).mono ?_
      rintro e W4 ⟨rfl, hE1⟩
      have HB2 := hide (HB2.out.ext hE1)
      have HB4 := hide (HB4.out.ext hE1)
      have HE := hide (HE.out.trans hE1)
      clear hE1
      go_upto_region 9 with fail
      have HG : Hid (GrBox (W4.alloc (gobj pg)) W4.heap.size pg) := gr_new W4 pg
      have HZ := hide (lt_of_heap HB4.out)
      have HB2 := hide (HB2.out.alloc (gobj pg))
      have HB4 := hide (HB4.out.alloc (gobj pg))
      have HE := hide (HE.out.alloc (gobj pg))
      generalize W4.alloc (gobj pg) = W5 at HG HB2 HB4 HE ⊢
      generalize W4.heap.size = gb at HG HZ ⊢
      obtain ⟨a0, a1, a2, a3, a4, a5, az⟩ := HG.out.cells
      obtain ⟨d0, d1, d2, d3, d4, d5, d6, dz⟩ := HB4.out.cells
      obtain ⟨f0, f1, f2, f3, f4, f5, f6⟩ := HB4.out.frozen
      go_upto_region 10 with fail
      clear a0 a1 a2 a3 a4 a5 az d0 d1 d2 d3 d4 d5 d6 dz f0 f1 f2 f3 f4 f5 f6 HG
      have HB4 := hide (HB4.out.gset pg)
      have HB2 : Hid (RdBox (gstore W5 (w.heap.size + 1) pg) w.heap.size rz0) := (heap_gstore (by omega) pg).trans HB2.out
      have HE := hide (HE.out.gstore (b := w.heap.size + 1) (by omega) pg)
      change Code.wp _ _ _ _ (gstore W5 (w.heap.size + 1) pg)
      generalize gstore W5 (w.heap.size + 1) pg = W6 at HB2 HB4 HE ⊢
      obtain ⟨d0, d1, d2, d3, d4, d5, d6, dz⟩ := HB4.out.cells
      obtain ⟨e0, e1, e2, e3, e4, e5, e6, ez⟩ := HB2.out.cells
      obtain ⟨f0, f1, f2, f3, f4, f5, f6⟩ := HB2.out.frozen
      by_cases he : pe = 0
      · subst he
        go_wp2_with fail
        exact bodyPost_ret (v := .tuple #[(⟨pg, m⟩ : Rd).v, .bool true]) (results_rd2 rfl _ rfl rfl (HB2.out.store ⟨pg, m⟩)) rfl ⟨⟨pg, m⟩, true, rfl, HE.out.rstore (by omega) ⟨pg, m⟩, .inl ⟨rfl, by rw [HR.out]; first | exact if_pos trivial | exact if_pos rfl⟩⟩
      · have hd : (pe == 0) = false := by simp [he]
        have HEE := hide he
        clear he
        go_wp2_with fail
        exact bodyPost_ret (v := .tuple #[(⟨pg, m⟩ : Rd).v, .bool false]) (results_rd2 rfl _ rfl rfl (HB2.out.store ⟨pg, m⟩)) rfl ⟨⟨pg, m⟩, false, rfl, HE.out.rstore (by omega) ⟨pg, m⟩, .inr ⟨rfl, by rw [HR.out]; exact if_neg HEE.out⟩⟩
    · have HR := hide (HN.out hn)
      clear hn HN HS HDG
      obtain ⟨d0, d1, d2, d3, d4, d5, d6, dz⟩ := HB4.out.cells
      obtain ⟨e0, e1, e2, e3, e4, e5, e6, ez⟩ := HB2.out.cells
      obtain ⟨f0, f1, f2, f3, f4, f5, f6⟩ := HB2.out.frozen
      go_wp2_with fail
      exact bodyPost_ret (v := .tuple #[rz0.v, .bool false]) (results_rd2 rfl _ rfl rfl (HB2.out.store rz0)) rfl ⟨rz0, false, rfl, HE.out.rstore (by omega) rz0, .inr ⟨rfl, HR.out⟩⟩
  · have HR := hide (let_miss hi)
    have hge := Lib.index_ge s.data.toList [32, 33]
    have HPA := hide (fun W => HPA.out s hs W)
    generalize parseS s.data.toList = pr at HR HPA
    obtain ⟨pg, pe⟩ := pr
    generalize letS s.data.toList = res at HR ⊢
    generalize Lib.index s.data.toList [32, 33] = ix at hi HSP hge
    obtain rfl : ix = -1 := by omega
    clear hlen hs HDG hi hge
    go_enter Tryd.func58, Tryd.ntmps58
    go_upto_region 2 with fail
    have HB2 : Hid (RdBox ((w.alloc robj0).alloc robj0) w.heap.size rz0) := (rd_new w rz0).alloc _
    have HB4 : Hid (RdBox ((w.alloc robj0).alloc robj0) (w.heap.size + 1) rz0) := by
      have := rd_new (w.alloc robj0) rz0
      rwa [World.size_alloc] at this
    have HE : Hid (Ext w ((w.alloc robj0).alloc robj0)) := ((Ext.refl w).alloc _).alloc _
    generalize (w.alloc robj0).alloc robj0 = W at HB2 HB4 HE ⊢
    go_wp2_with fail
    refine (HSP.out W (HE.out.cell (p := ⟨0, 0, none⟩) hM0 |>.trans hm)).mono ?_
    rintro e W3 ⟨rfl, rfl⟩
    clear HSP hm
    go_wp2_with fail
    refine (HPA.out W3).mono ?_
    rintro e W4 ⟨rfl, hE1⟩
    have HB2 := hide (HB2.out.ext hE1)
    have HB4 := hide (HB4.out.ext hE1)
    have HE := hide (HE.out.trans hE1)
    clear hE1
    go_upto_region 9 with fail
    have HG : Hid (GrBox (W4.alloc (gobj pg)) W4.heap.size pg) := gr_new W4 pg
    have HZ := hide (lt_of_heap HB4.out)
    have HB2 := hide (HB2.out.alloc (gobj pg))
    have HB4 := hide (HB4.out.alloc (gobj pg))
    have HE := hide (HE.out.alloc (gobj pg))
    generalize W4.alloc (gobj pg) = W5 at HG HB2 HB4 HE ⊢
    generalize W4.heap.size = gb at HG HZ ⊢
    obtain ⟨a0, a1, a2, a3, a4, a5, az⟩ := HG.out.cells
    obtain ⟨d0, d1, d2, d3, d4, d5, d6, dz⟩ := HB4.out.cells
    obtain ⟨f0, f1, f2, f3, f4, f5, f6⟩ := HB4.out.frozen
    go_upto_region 10 with fail
    clear a0 a1 a2 a3 a4 a5 az d0 d1 d2 d3 d4 d5 d6 dz f0 f1 f2 f3 f4 f5 f6 HG
    have HB4 := hide (HB4.out.gset pg)
    have HB2 : Hid (RdBox (gstore W5 (w.heap.size + 1) pg) w.heap.size rz0) := (heap_gstore (by omega) pg).trans HB2.out
    have HE := hide (HE.out.gstore (b := w.heap.size + 1) (by omega) pg)
    change Code.wp _ _ _ _ (gstore W5 (w.heap.size + 1) pg)
    generalize gstore W5 (w.heap.size + 1) pg = W6 at HB2 HB4 HE ⊢
    obtain ⟨d0, d1, d2, d3, d4, d5, d6, dz⟩ := HB4.out.cells
    obtain ⟨e0, e1, e2, e3, e4, e5, e6, ez⟩ := HB2.out.cells
    obtain ⟨f0, f1, f2, f3, f4, f5, f6⟩ := HB2.out.frozen
    by_cases he : pe = 0
    · subst he
      go_wp2_with fail
      exact bodyPost_ret (v := .tuple #[(⟨pg, 0⟩ : Rd).v, .bool true]) (results_rd2 rfl _ rfl rfl (HB2.out.store ⟨pg, 0⟩)) rfl ⟨⟨pg, 0⟩, true, rfl, HE.out.rstore (by omega) ⟨pg, 0⟩, .inl ⟨rfl, by rw [HR.out]; first | exact if_pos trivial | exact if_pos rfl⟩⟩
    · have hd : (pe == 0) = false := by simp [he]
      have HEE := hide he
      clear he
      go_wp2_with fail
      exact bodyPost_ret (v := .tuple #[(⟨pg, 0⟩ : Rd).v, .bool false]) (results_rd2 rfl _ rfl rfl (HB2.out.store ⟨pg, 0⟩)) rfl ⟨⟨pg, 0⟩, false, rfl, HE.out.rstore (by omega) ⟨pg, 0⟩, .inr ⟨rfl, by rw [HR.out]; exact if_neg HEE.out⟩⟩
set_option maxRecDepth 16000 in
set_option maxHeartbeats 2000000 in
theorem rrdparse_any (n : Int) (s : ByteArray) (hs : s.size ≤ 1000000) (w : World) (hM : Ml w) : Calls Tryd.prog 26 #[.int .i64 n, .string s] w (RetPs (parseW n s.data.toList) w) := by
  have hlen : s.data.toList.length = s.size := Array.length_toList
  have HN := hide (fun W => rprocs_any n W)
  by_cases hn : n < 1 ∨ 5 < n
  case pos =>
    have hp : procs n = 1 := if_pos hn
    rw [hp] at HN
    have HR := hide (parseW_n (s := s.data.toList) hn)
    generalize parseW n s.data.toList = res at HR ⊢
    clear hn hp
    go_enter Tryd.func26, Tryd.ntmps26
    go_wp2_with fail
    refine (HN.out _).mono ?_
    rintro e w1 ⟨rfl, rfl⟩
    go_wp2_with fail
    go_ret2
    exact ⟨.slice none 0 0, by rw [HR.out]; rfl, by rw [HR.out]; exact Own.nil _ _ _ (fun _ => rfl), Ext.refl _⟩
  case neg =>
  have hp : procs n = 0 := if_neg hn
  rw [hp] at HN
  by_cases hbig : 65536 < s.size
  · have HR := hide (parseW_long (s := s.data.toList) hn (by omega))
    generalize parseW n s.data.toList = res at HR ⊢
    clear hn hp
    go_enter Tryd.func26, Tryd.ntmps26
    go_wp2_with fail
    refine (HN.out _).mono ?_
    rintro e w1 ⟨rfl, rfl⟩
    go_wp2_with fail
    go_ret2
    exact ⟨.slice none 0 0, by rw [HR.out]; rfl, by rw [HR.out]; exact Own.nil _ _ _ (fun _ => rfl), Ext.refl _⟩
  by_cases hnone : s.data.toList = noneT
  · have HR := hide (parseW_none (s := s.data.toList) hn (by omega) hnone)
    have hd : s.toList = [110, 111, 110, 101] := by rw [ByteArray.toList_eq]; exact hnone
    generalize parseW n s.data.toList = res at HR ⊢
    clear hn hp hnone
    go_enter Tryd.func26, Tryd.ntmps26
    go_wp2_with fail
    refine (HN.out _).mono ?_
    rintro e w1 ⟨rfl, rfl⟩
    go_wp2_with fail
    go_ret2
    exact ⟨.slice none 0 0, by rw [HR.out]; rfl, by rw [HR.out]; exact Own.nil _ _ _ (fun _ => rfl), Ext.refl _⟩
  have hd : (s.toList == [110, 111, 110, 101]) = false := by
    rw [beq_eq_false_iff_ne, ByteArray.toList_eq]; exact hnone
  have hM' : Hid (Ml w) := hM
  obtain ⟨hM0, m, hm⟩ := hM
  have HSP := hide (fun W hc => Sstrings_Split s ⟨#[32, 47, 32]⟩ m W (by omega) hc (by decide))
  have HL := hide (splitW_len s)
  have hparts := splitW_parts s
  have HCL := hide (countB_le s ⟨#[32, 47, 32]⟩)
  generalize Lib.splitB ⟨#[32, 47, 32]⟩ 0 (Lib.countB s ⟨#[32, 47, 32]⟩) s = xs at HSP hparts
  have HXL : Hid (xs.length = Lib.countB s ⟨#[32, 47, 32]⟩ + 1) := by show _ = _; rw [← HL.out, ← hparts, List.length_map]
  have HK : Hid (Lib.countB s ⟨#[32, 47, 32]⟩ + 1 ≤ 1000002) := by have := HCL.out; show _ ≤ _; omega
  clear HCL
  generalize Lib.countB s ⟨#[32, 47, 32]⟩ + 1 = K at HSP HL HXL HK
  have HPT := hide hparts
  have HXS : Hid (∀ x ∈ xs, x.size ≤ 1000000) := fun x hx => by
    have h1 : x.data.toList ∈ Lib.split s.data.toList sepW := by rw [← HPT.out]; exact List.mem_map_of_mem hx
    have h2 := splitK_len _ _ _ _ _ h1
    have h3 : x.data.toList.length = x.size := Array.length_toList
    omega
  have HBAD := hide (parseW_bad (n := n) (s := s.data.toList) hn (by omega) hnone)
  have HOK := hide (fun l => parseW_ok (n := n) (s := s.data.toList) (l := l) hn (by omega) hnone)
  generalize parseW n s.data.toList = res at HBAD HOK ⊢
  generalize Lib.split s.data.toList sepW = P at HL HPT HBAD HOK
  have HNT := hide hd
  clear hparts hn hp hnone hd hlen
  go_enter Tryd.func26, Tryd.ntmps26
  go_wp2_with fail
  refine (HN.out _).mono ?_
  rintro e w1 ⟨rfl, rfl⟩
  have hd := HNT.out
  have hbg : decide ((65536 : Int) < (s.size : Int)) = false := by simp; omega
  go_wp2_with fail
  clear hd hbg
  refine (HSP.out _ hm).mono ?_
  rintro e w2 ⟨rfl, hw2⟩
  have HE0 : Hid (Ext w1 w2) := by show Ext _ _; rw [hw2]; exact (Ext.refl _).alloc _
  have HX0 : Hid (w2.heap[w1.heap.size]? = some (.cells (xs.map Value.string).toArray 9 (0, 0))) := by show _ = _; rw [hw2]; exact heap_alloc_new _ _
  clear hw2 HSP hm
  have HKI : Hid ((K : Int) ≤ 1000002) := by have := HK.out; show _ ≤ _; omega
  have HZ0 := hide (lt_of_heap HX0.out)
  have HO : Hid (Own Rd.cells 7 w2 w2.heap.size 26 (.slice none 0 0) []) := Own.nil _ _ _ (fun _ => rfl)
  go_wp2_with fail
  go_loopw [9, 7, 10, 11] (fun x u _ _ V => ∃ (i : Nat) (L : List Rd), i ≤ K ∧ x = .int .i64 i ∧ Hid (L.length = i ∧ letsS (P.take i) = some L) ∧ Hid (Ext w2 V) ∧ Hid (Own Rd.cells 7 V w2.heap.size 26 u L)) (fun x _ _ _ _ => K - (intOf x).toNat)
  case atStart => exact ⟨0, [], by omega, rfl, ⟨rfl, rfl⟩, Ext.refl _, HO⟩
  case round =>
    clear HO
    obtain ⟨i, L, hi, rfl, HL2, HE, HO⟩ := hrel
    have HX := hide ((HE.out.b.block _ HZ0.out).trans HX0.out)
    by_cases hlt : i < K
    · obtain ⟨x, hx, hxl⟩ : ∃ x : ByteArray, xs[i]? = some x ∧ P[i]? = some x.data.toList := by
        have h1 : i < xs.length := by rw [HXL.out]; exact hlt
        refine ⟨xs[i], List.getElem?_eq_getElem h1, ?_⟩
        rw [← HPT.out, List.getElem?_map, List.getElem?_eq_getElem h1]; rfl
      have hcx : wr.cell? ⟨w1.heap.size, i, none⟩ = some (.string x) := by
        rw [cell_of_row _ _ _ _ _ _ HX.out, List.getElem?_toArray, List.getElem?_map, hx]; rfl
      have hbx := lt_of_heap HX.out
      have HC := hide (rletter_any x (HXS.out x (List.mem_of_getElem? hx)))
      have HXL2 := hide hxl
      clear hx hxl
      have hKI := HKI.out
      go_wp2_with fail
      refine (HC.out wr (Ml.ext hM'.out (HE0.out.trans HE.out))).mono ?_
      rintro e W ⟨r, b, rfl, hE, hb⟩
      have HE2 := hide (HE.out.trans hE)
      have HO := hide (HO.out.ext hE)
      have HB := hide hb
      clear hE hb HC hcx hbx HE HX
      have hlL : L.length ≤ 1000002 := by have := HL2.out.1; have := HK.out; omega
      obtain ⟨su, sc, hsl⟩ := HO.out.sl
      cases b with
      | false =>
        have HR : Hid (res = ([], 4)) := HBAD.out (lets_fail (List.mem_of_getElem? HXL2.out) (by
          rcases HB.out with ⟨h, _⟩ | ⟨_, h⟩
          · cases h
          · exact h))
        go_wp2_with fail
        go_ret2
        exact ⟨.slice none 0 0, by rw [HR.out]; rfl, by rw [HR.out]; exact Own.nil _ _ _ (fun _ => rfl), HE0.out.trans (HE2.out.alloc _)⟩
      | true =>
        have HSN : Hid (letsS (P.take (i + 1)) = some (L ++ [r])) := by
          show _ = _
          have h1 : P.take (i + 1) = P.take i ++ [x.data.toList] := by
            rw [List.take_add_one, HXL2.out]; rfl
          rw [h1]
          refine lets_snoc HL2.out.2 ?_
          rcases HB.out with ⟨_, h⟩ | ⟨h, _⟩
          · exact h
          · cases h
        clear HB
        subst hsl
        go_upto_region 16 with fail
        have HE3 := hide (HE2.out.alloc (robj r))
        have HO := hide (HO.out.alloc (robj r))
        have HBX : Hid (RdBox (W.alloc (robj r)) W.heap.size r) := rd_new W r
        change Code.wp _ _ _ _ (W.alloc (robj r))
        generalize W.alloc (robj r) = W3 at HE3 HO HBX ⊢
        generalize W.heap.size = b10 at HBX ⊢
        clear HE2
        obtain ⟨c0, c1, c2, c3, c4, c5, c6, cz⟩ := HBX.out.cells
        go_wp2_with (at_builtin; refine wpList_append1 rfl (.tmp 41) (.tmp 43) 35 rfl w2.heap.size 26 (Rd.v default) 7 56 Tryd.underlying35 rd_info rfl (by decide) _ L r W3.heap.size rfl (HO.out.alloc _) rfl (rd_new_cells _ _) (rd_ones r) (by omega) (by decide) (by simp only [World.size_alloc]; have := HE3.out.size; omega) ?_; intro v' W6 hown' hg6 hf6; obtain ⟨g7, c7, rfl, -⟩ := hf6)
        have hge := HO.out.block_ge
        have HE6 : Hid (Ext w2 W6) := (HE3.out.alloc _).grown hg6 (fun k hk => by have := hge k hk; omega)
        have HFIN := hide hown'
        clear hge hown' hg6 c0 c1 c2 c3 c4 c5 c6 cz
        have HLN := hide HL2.out.1
        go_wp2_with fail
        go_roundw
        case rel => exact ⟨i + 1, L ++ [r], by omega, by go_num, ⟨by rw [List.length_append, HLN.out]; rfl, HSN.out⟩, HE6, HFIN⟩
        case measure => simp [intOf]; omega
    · obtain rfl : i = K := by omega
      have HLN := hide HL2.out.1
      have HLE := hide (fun hl => HO.out.row hl)
      have HLL : Hid (L.length ≤ 17592186044416) := by show _ ≤ _; rw [HLN.out]; have := HK.out; omega
      have HLS := HL2.out.2
      rw [show P.take i = P from List.take_of_length_le (by rw [HL.out]; exact Nat.le_refl _)] at HLS
      have HRES := hide (HOK.out L HLS)
      clear HLS
      have HWD := hide (fun W (hE : Ext wr W) => rrword_any n L u7 W ((HO.out.row HLL.out).ext hE))
      go_wp2_with fail
      refine (HWD.out wr (Ext.refl _)).mono ?_
      rintro e W ⟨rfl, hE⟩
      have HEF := hide (HE0.out.trans (HE.out.trans hE))
      have HOF := hide ((HO.out.ext hE).mono HE0.out.size)
      clear hE HWD HLE HBAD HOK HO
      by_cases he : wordE n L = 0
      · have HRR : Hid (res = (L, 0)) := by show _ = _; rw [HRES.out]; exact if_neg (fun k => k he)
        rw [he]
        clear he HRES
        go_wp2_with fail
        go_ret2
        exact ⟨u7, by rw [HRR.out]; rfl, by rw [HRR.out]; exact HOF.out, HEF.out⟩
      · have HRR : Hid (res = ([], wordE n L)) := by show _ = _; rw [HRES.out]; exact if_pos he
        generalize wordE n L = x at he HRR ⊢
        have hd : (x != 0) = true := by simp [he]
        clear he HRES
        go_wp2_with fail
        go_ret2
        exact ⟨.slice none 0 0, by rw [HRR.out]; rfl, by rw [HRR.out]; exact Own.nil _ _ _ (fun _ => rfl), HEF.out⟩
end Go.Proofs.YtfnhjalnbmnlaaaDoor
