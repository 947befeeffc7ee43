/-
  The reference's text of a graph (Text, Format).
  Conditions: as each theorem states.
-/
import Derived.Test.YtfnhjalnbmnlaaaDoorSpl
import Derived.Test.YtfnhjalnbmnlaaaDoorGOps
import Derived.Deep.CutRange
import Derived.Lib.SlBytesRow
namespace Go.Proofs.YtfnhjalnbmnlaaaDoor
open Go.RowKit
attribute [local go_sem] Oper.semAt_some

abbrev bcells (c : UInt8) : List Value := [.int .u8 (c.toNat : Int)]
theorem byte_info : (Tryd.prog.info? 5).map (fun i => (i.zero, i.size, i.bytes)) = some (some (.int .u8 0), 1, 1) := by kernel_rfl
theorem byte_one (c : UInt8) : ∀ u ∈ bcells c, u.oneCell' = true := by intro u hu; simp only [List.mem_singleton] at hu; rw [hu]; rfl
/-- The text of the elements below q of a set. -/
def rowTo (s q : Nat) : List UInt8 := ((List.range q).filter fun m => s.testBit m).map fun m => UInt8.ofNat (48 + m)
theorem rowTo_yes {s q : Nat} (h : s.testBit q = true) : rowTo s (q + 1) = rowTo s q ++ [UInt8.ofNat (48 + q)] := by unfold rowTo; rw [List.range_succ, List.filter_append, List.map_append]; simp [h]
theorem rowTo_no {s q : Nat} (h : s.testBit q = false) : rowTo s (q + 1) = rowTo s q := by unfold rowTo; rw [List.range_succ, List.filter_append, List.map_append]; simp [h]
theorem rowTo_txt : ∀ n, n ≤ 5 → ∀ s, s < 2 ^ n → rowTo s n = txt s := by decide +kernel
theorem rowTo_len (s : Nat) : ∀ q, (rowTo s q).length ≤ q
  | 0 => by simp [rowTo]
  | q + 1 => by
    have := rowTo_len s q
    cases h : s.testBit q with
    | true => rw [rowTo_yes h]; simp; omega
    | false => rw [rowTo_no h]; omega
/-- The text of the first p rows. -/
def outG (g : Gr) (p : Nat) : List UInt8 := Lib.join (partsG g p) [32]
def preG (g : Gr) (p : Nat) : List UInt8 := outG g p ++ if p = 0 then [] else [32]
theorem joinTail_snoc (sep : List UInt8) (y : List UInt8) : ∀ r, Lib.joinTail sep (r ++ [y]) = Lib.joinTail sep r ++ (sep ++ y)
  | [] => by simp [Lib.joinTail]
  | x :: r => by
    have := joinTail_snoc sep y r
    unfold Lib.joinTail at this ⊢
    rw [List.cons_append, List.map_cons, List.flatten_cons, this, List.map_cons, List.flatten_cons]
    simp only [List.append_assoc]
theorem outG_succ (g : Gr) (p : Nat) : outG g (p + 1) = preG g p ++ txt (g.r p) := by
  unfold preG outG
  rw [partsG_succ]
  cases p with
  | zero => simp [partsG, Lib.join_nil, Lib.join_one]
  | succ p =>
    obtain ⟨P, hP, -⟩ := partsG_cons g p
    rw [hP, List.cons_append, Lib.join_cons, joinTail_snoc, Lib.join_cons, if_neg (by omega)]
    simp only [List.append_assoc]
theorem outG_len (g : Gr) : ∀ p, (outG g p).length ≤ 6 * p
  | 0 => by simp [outG, partsG, Lib.join_nil]
  | p + 1 => by
    rw [outG_succ, List.length_append]
    have h1 := outG_len g p
    have h2 := txt_len (g.r p)
    unfold preG
    rw [List.length_append]
    split <;> simp <;> omega
theorem preG_len (g : Gr) (p : Nat) : (preG g p).length ≤ 6 * p + 1 := by
  unfold preG
  have h1 := outG_len g p
  rw [List.length_append]
  split <;> simp <;> omega
theorem u8_toNat (m : Nat) (h : m < 5) : ((UInt8.ofNat (48 + m)).toNat : Int) = 48 + (m : Int) := txt_byte m h
theorem own_bytes {w : World} {base g c n : Nat} {l : List UInt8} (h : Own bcells 1 w base 5 (.slice (some ⟨g, 0, none⟩) n c) l) : Lib.Bytes w g 0 ⟨l.toArray⟩ := fun i hi => by
  have hi' : i < l.length := by have h2 : i < l.toArray.size := hi; rwa [List.size_toArray] at h2
  have hx : l[i]? = some l[i] := List.getElem?_eq_getElem hi'
  have := h.2.cells (g := g) rfl (i * 1 + 0) (.int .u8 (l[i].toNat : Int)) (by rw [flat_get h.1 l i 0 _ hx (by decide)]; rfl)
  rw [add_lit, Nat.mul_one, Nat.add_zero] at this
  rw [Nat.zero_add, this]
  rfl

set_option maxRecDepth 16000 in
set_option maxHeartbeats 2000000 in
theorem rtext_any (g : Gr) {n : Nat} (hg : Wf g n) (w : World) : Calls Tryd.prog 87 #[g.v] w fun e w' => e = .returned (.string ⟨(wrt g).toArray⟩) ∧ Ext w w' := by
  have HH := hide (fun (x p : Nat) (hx : x < 32) (hp : p ≤ 60) W => rhas_any (x : Int) (p : Int) W (by omega) (by omega) (by omega) (by omega))
  have HN := hide hg.n_eq
  have HROW := hide hg.row
  have HLT := hide hg.lt32
  have HTX := hide (fun p => rowTo_txt n hg.n5 (g.r p) (hg.ltn p))
  have HS := hide (outG_succ g)
  have HL := hide (preG_len g)
  have HWR : Hid (wrt g = outG g n) := by show _ = _; unfold wrt outG; rw [hg.toNat]
  have HNE : Hid (0 < (outG g n).length) := by
    obtain ⟨m, rfl⟩ : ∃ m, n = m + 1 := ⟨n - 1, by have := hg.n1; omega⟩
    show 0 < _
    have h1 : txt (g.r m) ≠ [] := by
      intro h0
      have h2 := (txt_ok _ (hg.lt32 m)).2
      rw [h0] at h2
      have h3 := hg.own m (by omega)
      rw [← h2] at h3
      simp [rowB] at h3
    rw [outG_succ, List.length_append]
    have := List.length_pos_iff.2 h1
    omega
  have HP0 : Hid (outG g 0 = []) := by show _ = _; simp [outG, partsG, Lib.join_nil]
  have HPN : Hid (∀ p, 0 < p → preG g p = outG g p ++ [32]) := fun p hp => by unfold preG; rw [if_neg (by omega)]
  have HPZ : Hid (preG g 0 = outG g 0) := by show _ = _; simp [preG]
  have HOL := hide (outG_len g)
  have hn5 := hg.n5
  clear hg
  generalize wrt g = res at HWR ⊢
  generalize outG g = og at *
  generalize preG g = pg at *
  go_enter Tryd.func87, Tryd.ntmps87
  go_wp2_with fail
  have HB : Hid (GrBox (w.alloc (gobj g)) w.heap.size g) := gr_new w g
  have HE : Hid (Ext w (w.alloc (gobj g))) := (Ext.refl w).alloc _
  have HO : Hid (Own bcells 1 (w.alloc (gobj g)) (w.heap.size + 1) 5 (.slice none 0 0) (og 0)) := by show Own _ _ _ _ _ _ _; rw [HP0.out]; exact Own.nil _ _ _ (fun _ => rfl)
  generalize w.alloc (gobj g) = W at HB HE HO ⊢
  go_loopw [4, 3, 5] (fun x u _ V => ∃ p : Nat, p ≤ n ∧ x = .int .i64 p ∧ Hid (Ext w V) ∧ Hid (GrBox V w.heap.size g) ∧ Hid (Own bcells 1 V (w.heap.size + 1) 5 u (og p))) (fun x _ _ _ => n - (intOf x).toNat)
  case atStart => exact ⟨0, by omega, rfl, HE, HB, HO⟩
  case round =>
    clear HB HE HO
    obtain ⟨p, hp, rfl, HE, HB, HO⟩ := hrel
    obtain ⟨c0, -, -, -, -, -, z0⟩ := HB.out.cells
    rw [HN.out] at c0
    obtain ⟨su, sc, rfl⟩ := HO.out.sl
    by_cases hlt : p < n
    · go_upto_if 13 with fail
      go_cut [3] from 12 to 16 (fun u V => Hid (Ext w V) ∧ Hid (GrBox V w.heap.size g) ∧ Hid (Own bcells 1 V (w.heap.size + 1) 5 u (pg p)))
      case first =>
        by_cases hp0 : 0 < p
        · have HQ := hide (HPN.out p hp0)
          have HLE := hide (HOL.out p)
          go_wp2_with (at_builtin; refine wpList_append1 rfl (.tmp 14) (.tmp 15) 112 rfl (w.heap.size + 1) 5 (.int .u8 0) 1 1 Tryd.underlying112 byte_info rfl (by decide) _ (og p) (32 : UInt8) wr.heap.size rfl (HO.out.alloc _) rfl (cell_new1 _ _ _) (byte_one 32) (by have := HLE.out; omega) (by decide) (by simp only [World.size_alloc]; have := HE.out.size; omega) ?_; intro v' W6 hown' hg6 hf6; obtain ⟨g7, c7, rfl, -⟩ := hf6)
          have hge : ∀ k, (Value.slice su (og p).length sc).ownBlock = some k → w.heap.size + 1 ≤ k := HO.out.block_ge
          have hE6 : Ext w W6 := (HE.out.alloc _).grown hg6 (fun k hk => by have := hge k hk; omega)
          have hB6 : GrBox W6 w.heap.size g := (hg6.block _ (lt_of_heap (HB.out.alloc _)) (fun he => by have := hge _ he.symm; omega)).trans (HB.out.alloc _)
          rw [← HQ.out] at hown'
          have HFIN := hide (And.intro hE6 (And.intro hB6 hown'))
          clear hge hE6 hB6 hown' hg6 HQ HLE
          go_wp2_with fail
          go_meet
          exact ⟨HFIN.out.1, HFIN.out.2.1, HFIN.out.2.2⟩
        · obtain rfl : p = 0 := by omega
          have HO : Hid (Own bcells 1 wr (w.heap.size + 1) 5 (.slice su (og 0).length sc) (pg 0)) := by show Own _ _ _ _ _ _ _; rw [HPZ.out]; exact HO.out
          go_wp2_with fail
          go_meet
          exact ⟨HE, HB, HO⟩
      case rest =>
        obtain ⟨HE, HB, HO⟩ := hcut
        clear c0 z0
        rename_i u3 _
        have HX : Hid (og (p + 1) = pg p ++ rowTo (g.r p) n) := by show _ = _; rw [HTX.out, HS.out]
        have HPL := hide (HL.out p)
        have hr32 := HLT.out p
        have HROWp := hide (HROW.out p)
        have HRB : Hid (∀ q, (g.r p).testBit q = has ((g.r p : Nat) : Int) q) := fun q => (has_nat _ _).symm
        generalize g.r p = rp at HX hr32 HROWp HRB
        have HY := hide (fun q (h : rp.testBit q = true) => show pg p ++ rowTo rp (q + 1) = (pg p ++ rowTo rp q) ++ [UInt8.ofNat (48 + q)] by rw [rowTo_yes h, List.append_assoc])
        have HNo := hide (fun q (h : rp.testBit q = false) => show pg p ++ rowTo rp (q + 1) = pg p ++ rowTo rp q by rw [rowTo_no h])
        have HLR := hide (fun q (h : q ≤ n) => show (pg p ++ rowTo rp q).length ≤ 36 by rw [List.length_append]; have := HPL.out; have := rowTo_len rp q; omega)
        have H0 : Hid (pg p = pg p ++ rowTo rp 0) := by show _ = _; rw [show rowTo rp 0 = [] from rfl, List.append_nil]
        rw [H0.out] at HO
        obtain ⟨tx, htx⟩ : ∃ tx : Nat → List UInt8, tx = fun q => pg p ++ rowTo rp q := ⟨_, rfl⟩
        replace HO : Hid (Own bcells 1 wc (w.heap.size + 1) 5 u3 (tx 0)) := by rw [htx]; exact HO
        replace HX : Hid (og (p + 1) = tx n) := by rw [htx]; exact HX
        replace HY : Hid (∀ q, rp.testBit q = true → tx (q + 1) = tx q ++ [UInt8.ofNat (48 + q)]) := by rw [htx]; exact HY
        replace HNo : Hid (∀ q, rp.testBit q = false → tx (q + 1) = tx q) := by rw [htx]; exact HNo
        replace HLR : Hid (∀ q, q ≤ n → (tx q).length ≤ 36) := by rw [htx]; exact HLR
        clear htx H0 HPL
        go_wp2_with fail
        go_loopw [5, 3] (fun x u V => ∃ q : Nat, q ≤ n ∧ x = .int .i64 q ∧ Hid (Ext w V) ∧ Hid (GrBox V w.heap.size g) ∧ Hid (Own bcells 1 V (w.heap.size + 1) 5 u (tx q))) (fun x _ _ => n - (intOf x).toNat)
        case atStart => exact ⟨0, by omega, rfl, HE, HB, HO⟩
        case round =>
          clear HE HB HO
          obtain ⟨q, hq, rfl, HE, HB, HO⟩ := hrel
          obtain ⟨c0, -, -, -, -, -, z0⟩ := HB.out.cells
          rw [HN.out] at c0
          obtain ⟨su2, sc2, rfl⟩ := HO.out.sl
          by_cases hqt : q < n
          · obtain ⟨r1, -⟩ := HB.out.row (p := p) (by omega)
            rw [HROWp.out] at r1
            have hp5 : (p : Int) < 5 := by omega
            have hb := HRB.out q
            have HC : Hid (∀ W, Calls Tryd.prog 75 #[.int .i64 (rp : Nat), .int .i64 (q : Nat)] W fun e w' => e = .returned (.bool (rp.testBit q)) ∧ w' = W) := fun W => by
              have h := HH.out rp q hr32 (by omega) W
              rwa [Int.toNat_natCast, ← hb] at h
            clear hb
            generalize hbb : rp.testBit q = bb at HC
            have HBB := hide hbb
            clear hbb
            have HLQ := hide (HLR.out q hq)
            go_wp2_with fail
            refine (HC.out _).mono ?_
            rintro e w2 ⟨rfl, rfl⟩
            clear r1
            cases bb
            · have HR := hide (HNo.out q HBB.out)
              go_wp2_with fail
              go_roundw
              case rel => exact ⟨q + 1, by omega, by go_num, HE, HB, by rw [HR.out]; exact HO⟩
              case measure => simp [intOf]; omega
            · have HR := hide (HY.out q HBB.out)
              have HU := hide (u8_toNat q (by omega))
              generalize UInt8.ofNat (48 + q) = c at HR HU
              have hcv := (u8_small q (by omega)).2
              go_wp2_with (at_builtin; refine wpList_append1 rfl (.tmp 29) (.tmp 33) 112 rfl (w.heap.size + 1) 5 (.int .u8 0) 1 1 Tryd.underlying112 byte_info rfl (by decide) _ (tx q) c w2.heap.size rfl (HO.out.alloc _) rfl (by rw [show bcells c = one (.int .u8 (48 + (q : Int))) from by show [Value.int .u8 (c.toNat : Int)] = _; rw [HU.out]]; exact cell_new1 _ _ _) (byte_one c) (by have := HLQ.out; omega) (by decide) (by simp only [World.size_alloc]; have := HE.out.size; omega) ?_; intro v' W6 hown' hg6 hf6; obtain ⟨g7, c7, rfl, -⟩ := hf6)
              have hge : ∀ k, (Value.slice su2 (tx q).length sc2).ownBlock = some k → w.heap.size + 1 ≤ k := HO.out.block_ge
              have hE6 : Ext w W6 := (HE.out.alloc _).grown hg6 (fun k hk => by have := hge k hk; omega)
              have hB6 : GrBox W6 w.heap.size g := (hg6.block _ (lt_of_heap (HB.out.alloc _)) (fun he => by have := hge _ he.symm; omega)).trans (HB.out.alloc _)
              rw [← HR.out] at hown'
              have HFIN := hide (And.intro hE6 (And.intro hB6 hown'))
              clear hge hE6 hB6 hown' hg6 HR HLQ hcv
              go_wp2_with fail
              go_roundw
              case rel => exact ⟨q + 1, by omega, by go_num, HFIN.out.1, HFIN.out.2.1, HFIN.out.2.2⟩
              case measure => simp [intOf]; omega
          · obtain rfl : q = n := by omega
            have HO2 : Hid (Own bcells 1 wr (w.heap.size + 1) 5 (.slice su2 (tx q).length sc2) (og (p + 1))) := by rw [HX.out]; exact HO
            clear HX HY HNo HLR
            go_wp2_with fail
            go_roundw
            case rel => exact ⟨p + 1, by omega, by go_num, HE, HB, HO2⟩
            case measure => simp [intOf]; omega
    · obtain rfl : p = n := by omega
      have HLE := hide (HOL.out p)
      obtain ⟨sg, scap, hv⟩ : ∃ sg scap, Value.slice su (og p).length sc = .slice (some ⟨sg, 0, none⟩) (og p).length scap := by
        rcases HO.out.form with ⟨h1, h2⟩ | ⟨sg, scap, h1, -⟩
        · have := HNE.out; rw [h2] at this; simp at this
        · exact ⟨sg, scap, h1⟩
      injection hv with e1 _ e2
      subst e1 e2
      have hb := own_bytes HO.out
      have hcv := Lib.run_convert_whole (P := Tryd.prog) wr 112 5 9 Tryd.underlying112 Tryd.underlying5 Tryd.underlying9 sg 0 ⟨(og p).toArray⟩ hb sc
      rw [show (⟨(og p).toArray⟩ : ByteArray).size = (og p).length from List.size_toArray] at hcv
      clear hb
      go_wp2_with fail
      go_ret
      exact ⟨by rw [HWR.out]; rfl, HE.out⟩
set_option maxHeartbeats 1000000 in
theorem format_any (g : Gr) (w : World) (hT : Tz w) : Calls Tryd.prog 82 #[g.v] w (RetV1 (.string ⟨(if gchk g = 0 then wrt g else []).toArray⟩, gchk g) w) := by
  by_cases h0 : gchk g = 0
  · obtain ⟨n, hg⟩ := wf_of h0
    rw [if_pos h0, h0]
    exact format_ok g hg w hT
  · have HC := hide (fun W => gcheck_any g W)
    rw [if_neg h0]
    have hd : (gchk g != 0) = true := by simp [h0]
    have H0 := hide h0
    clear h0
    generalize gchk g = e at HC hd H0 ⊢
    go_enter Tryd.func82, Tryd.ntmps82
    go_wp2_with fail
    have HE : Hid (Ext w (w.alloc (gobj g))) := (Ext.refl w).alloc _
    generalize w.alloc (gobj g) = W at HE ⊢
    refine (HC.out _).mono ?_
    rintro r w1 ⟨rfl, hE⟩
    have HE := hide (HE.out.trans hE)
    clear hE
    go_wp2_with fail
    go_ret2
    exact ⟨rfl, HE.out⟩
end Go.Proofs.YtfnhjalnbmnlaaaDoor
