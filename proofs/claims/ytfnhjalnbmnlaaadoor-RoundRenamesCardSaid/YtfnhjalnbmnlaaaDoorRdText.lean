/-
  Texts of rounds and words: round.text, Format; the reference's List, Text, Format.
  Conditions: the table of math/bits lies in the heap (Tz), for the program's.
-/
import Derived.Test.YtfnhjalnbmnlaaaDoorSplW
import Derived.Test.YtfnhjalnbmnlaaaDoorRdEnds
import Derived.Test.YtfnhjalnbmnlaaaDoorRTxt
namespace Go.Proofs.YtfnhjalnbmnlaaaDoor
open Go.RowKit
attribute [local go_sem] Oper.semAt_some

set_option maxHeartbeats 1000000 in
theorem members_n (n s : Nat) (h1 : 1 ≤ n) (h5 : n ≤ 5) (hs : s < 2 ^ n) (w : World) (hT : Tz w) :
    Calls Tryd.prog 83 #[.int .i64 n, .int .i64 s] w (RetV2 (fun u w' => Own icells 1 w' w.heap.size 3 u (elI s)) 0 w) := by
  have hs32 := n32' h5 hs
  have HC := hide (fun W => pcheck_any (n : Int) (s : Int) W)
  rw [pchk_ok (n := (n : Int)) (by omega) (by omega) (by rw [Int.toNat_natCast, pow2_int]; omega)] at HC
  have HL := hide (fun W gs (hE : Ext w W) h1 h2 => collected_any s hs32 gs W (hT.ext hE) h1 h2)
  have HE := hide (fun W => elements_any (s : Int) W)
  clear hT hs
  go_enter Tryd.func83, Tryd.ntmps83
  go_wp2_with (go_at_call 67; refine (HC.out _).mono ?_; rintro e w1 ⟨rfl, rfl⟩)
  refine (HE.out _).mono ?_
  rintro e w2 ⟨rfl, hw2⟩
  have hE2 : Ext w1 w2 := by rw [hw2]; exact (Ext.refl w1).alloc _
  have hb : Box w2 w1.heap.size 3 (.int .i64 s) := by rw [hw2]; exact Box.new _ _ _
  have HB := hide hb
  have HE2 := hide hE2
  clear hw2 hb hE2
  go_wp2_with fail
  refine (HL.out _ _ HE2.out HB.out.lt HB.out.cell).mono ?_
  rintro e w3 ⟨u, rfl, hu, hE3⟩
  obtain ⟨q, c, rfl⟩ := hu.sl
  have HU := hide hu
  have HE3 := hide (HE2.out.trans hE3)
  have HZ := hide HE2.out.size
  clear hu hE3
  go_wp2_with fail
  go_ret2
  exact ⟨_, rfl, HU.out.mono HZ.out, HE3.out⟩
theorem bytes_app (a b : List UInt8) : (⟨a.toArray⟩ : ByteArray) ++ (⟨b.toArray⟩ : ByteArray) = ⟨(a ++ b).toArray⟩ := by
  apply ByteArray.ext
  simp [ByteArray.data_append]
theorem dig_cut : ∀ m, m < 5 → (⟨#[48, 49, 50, 51, 52, 53, 54, 55, 56, 57]⟩ : ByteArray).extract m (m + 1) = ⟨#[UInt8.ofNat (48 + m)]⟩ := by
  intro m hm
  obtain rfl | rfl | rfl | rfl | rfl : m = 0 ∨ m = 1 ∨ m = 2 ∨ m = 3 ∨ m = 4 := by omega
  all_goals rfl
theorem txt_take {s i : Nat} (h : i < (el s).length) : (txt s).take (i + 1) = (txt s).take i ++ [UInt8.ofNat (48 + (el s)[i])] := by
  unfold txt
  rw [List.take_succ_eq_append_getElem (by rw [List.length_map]; exact h), List.getElem_map]
/-- The text of a round, the first k of its faulty ones. -/
def rtk (r : Rd) (k : Nat) : ByteArray := ⟨(wrt r.g ++ ([32, 33] ++ (txt r.f.toNat).take k)).toArray⟩
theorem rtk_zero (r : Rd) : (⟨(wrt r.g).toArray⟩ : ByteArray) ++ (⟨#[32, 33]⟩ : ByteArray) = rtk r 0 := by
  unfold rtk
  exact bytes_app (wrt r.g) [32, 33]
theorem rtk_succ (r : Rd) {k : Nat} (h : k < (el r.f.toNat).length) : rtk r k ++ (⟨#[UInt8.ofNat (48 + (el r.f.toNat)[k])]⟩ : ByteArray) = rtk r (k + 1) := by
  unfold rtk
  rw [txt_take h]
  refine (bytes_app _ [_]).trans ?_
  simp only [List.append_assoc]
theorem rtk_all (r : Rd) (h : r.f ≠ 0) : rtk r (el r.f.toNat).length = ⟨(rtx r).toArray⟩ := by
  unfold rtk rtx
  rw [if_neg h, List.take_of_length_le (by unfold txt; rw [List.length_map]; exact Nat.le_refl _)]
theorem rtk_size {r : Rd} {n : Nat} (h : RWf r n) (k : Nat) : (rtk r k).size ≤ 50 := by
  have h1 := wrt_len h.g
  have h2 := txt_len r.f.toNat
  show (rtk r k).data.size ≤ 50
  unfold rtk
  rw [List.size_toArray, List.length_append, List.length_append, List.length_take]
  show _ + (2 + _) ≤ 50
  omega
set_option maxRecDepth 16000 in
set_option maxHeartbeats 2000000 in
theorem rdtext_any (r : Rd) {n : Nat} (hr : RWf r n) (w : World) (hT : Tz w) : Calls Tryd.prog 53 #[r.v] w (RetV1 (.string ⟨(rtx r).toArray⟩, 0) w) := by
  have HF := hide (fun W (hE : Ext w W) => format_ok r.g hr.g W (hT.ext hE))
  by_cases h0 : r.f = 0
  · have HX : Hid (rtx r = wrt r.g) := by show _ = _; unfold rtx; rw [if_pos h0, List.append_nil]
    rw [HX.out]
    have hd : (r.f == 0) = true := by rw [h0]; rfl
    generalize (⟨(wrt r.g).toArray⟩ : ByteArray) = tx at HF ⊢
    have H0 := hide h0
    clear h0 hr hT HX
    go_enter Tryd.func53, Tryd.ntmps53
    go_upto_region 1 with fail
    have HB : Hid (RdBox (w.alloc (robj r)) w.heap.size r) := rd_new w r
    have HE : Hid (Ext w (w.alloc (robj r))) := (Ext.refl w).alloc _
    generalize w.alloc (robj r) = W at HB HE ⊢
    obtain ⟨c0, c1, c2, c3, c4, c5, c6, cz⟩ := HB.out.cells
    go_wp2_with fail
    clear c0 c1 c2 c3 c4 c5 c6 cz
    refine (HF.out _ HE.out).mono ?_
    rintro e w1 ⟨rfl, hE⟩
    have HE := hide (HE.out.trans hE)
    have HB := hide (HB.out.ext hE)
    clear hE
    obtain ⟨c0, c1, c2, c3, c4, c5, c6, cz⟩ := HB.out.cells
    go_wp2_with fail
    go_ret2
    exact ⟨rfl, HE.out⟩
  · have HX := hide (rtk_all r h0)
    rw [← HX.out]
    have hd : (r.f == 0) = false := by simp [h0]
    have hn := hr.g.n_eq
    have HM := hide (fun W (hE : Ext w W) => members_n n r.f.toNat hr.g.n1 hr.g.n5 hr.f_lt W (hT.ext hE))
    rw [← hr.f_eq, ← hn] at HM
    have hts : (⟨(wrt r.g).toArray⟩ : ByteArray).size ≤ 30 := by
      show (wrt r.g).toArray.size ≤ 30
      rw [List.size_toArray]; exact wrt_len hr.g
    have HZ := hide (rtk_zero r)
    have HST : Hid (∀ k, k < (elI r.f.toNat).length → ∃ m : Nat, m < 5 ∧ (elI r.f.toNat).getD k 0 = (m : Int) ∧ rtk r k ++ (⟨#[UInt8.ofNat (48 + m)]⟩ : ByteArray) = rtk r (k + 1)) := fun k hk => by
      rw [elI_length] at hk
      refine ⟨(el r.f.toNat)[k], (el_lt (List.getElem_mem hk)).1, ?_, rtk_succ r hk⟩
      unfold elI; rw [List.getD_eq_getElem?_getD, List.getElem?_map, List.getElem?_eq_getElem hk]; rfl
    have HSZ := hide (fun k => rtk_size hr k)
    have HX2 : Hid (rtk r (elI r.f.toNat).length = rtk r (el r.f.toNat).length) := by show _ = _; rw [elI_length]
    rw [← HX2.out]
    have HEL5 : Hid ((elI r.f.toNat).length ≤ 5) := by show _ ≤ _; rw [elI_length]; exact el_len _
    generalize (⟨(wrt r.g).toArray⟩ : ByteArray) = tx at HF HZ hts
    have hts2 : tx.size + 2 ≤ 9223372036854775807 := by omega
    clear HX HX2
    generalize rtk r = rt at HZ HST HSZ ⊢
    generalize elI r.f.toNat = eI at HM HST HEL5 ⊢
    have H0 := hide h0
    clear h0 hr hT hn
    go_enter Tryd.func53, Tryd.ntmps53
    go_upto_region 1 with fail
    have HB : Hid (RdBox (w.alloc (robj r)) w.heap.size r) := rd_new w r
    have HE : Hid (Ext w (w.alloc (robj r))) := (Ext.refl w).alloc _
    generalize w.alloc (robj r) = W at HB HE ⊢
    obtain ⟨c0, c1, c2, c3, c4, c5, c6, cz⟩ := HB.out.cells
    go_wp2_with fail
    clear c0 c1 c2 c3 c4 c5 c6 cz
    refine (HF.out _ HE.out).mono ?_
    rintro e w1 ⟨rfl, hE⟩
    have HE := hide (HE.out.trans hE)
    have HB := hide (HB.out.ext hE)
    clear hE
    obtain ⟨c0, c1, c2, c3, c4, c5, c6, cz⟩ := HB.out.cells
    go_wp2_with fail
    clear c0 c1 c2 c3 c4 c5 c6 cz
    refine (HM.out _ HE.out).mono ?_
    rintro e w2 ⟨u, rfl, hu, hE⟩
    have HE := hide (HE.out.trans hE)
    have HR := hide (hu.row (by have := HEL5.out; omega))
    clear hE hu
    obtain ⟨p, c, rfl, hc, hlen, hat⟩ := HR.out.int_all
    have HA := hide hat
    have hL5 := HEL5.out
    clear hat HR
    generalize eI.length = L at *
    generalize eI.getD = ed at HA HST
    go_upto_region 6 with fail
    clear hts hts2
    rw [HZ.out]
    go_wp2_with fail
    go_loopw [37, 4, 8] (fun x t _ V => ∃ k : Nat, k ≤ L ∧ x = .int .i64 k ∧ t = .string (rt k) ∧ V = w2) (fun x _ _ _ => L - (intOf x).toNat)
    case atStart => exact ⟨0, by omega, rfl, rfl, rfl⟩
    case round =>
      obtain ⟨k, hk, rfl, rfl, rfl⟩ := hrel
      by_cases hlt : k < L
      · obtain ⟨b, o, rfl, hb, hat⟩ := HA.out (by omega)
        have hx := hat k hlt _ (Ext.refl _)
        obtain ⟨m, hm, hme, hcat⟩ := HST.out k hlt
        rw [hme] at hx
        have HCAT := hide hcat
        have hsz := HSZ.out k
        have hss : (rt k).size + 1 ≤ 9223372036854775807 := by omega
        clear hat hme hcat
        obtain rfl | rfl | rfl | rfl | rfl : m = 0 ∨ m = 1 ∨ m = 2 ∨ m = 3 ∨ m = 4 := by omega
        all_goals
          go_wp2_with fail
          go_roundw
          case rel => exact ⟨k + 1, by omega, by go_num, by rw [← HCAT.out]; rfl, by trivial⟩
          case measure => simp [intOf]; omega
      · obtain rfl : k = L := by omega
        go_wp2_with fail
        go_ret2
        exact ⟨rfl, HE.out⟩
theorem join_own (base : Nat) (P : List (List UInt8)) (sep : List UInt8) (u : Value) (w : World) (ho : Own scell 1 w base 9 u P) (h0 : 0 < P.length) (hl : P.length ≤ 100000) (hj : (Lib.join P sep).length ≤ 100000000) :
    Calls Tryd.prog 54 #[u, .string ⟨sep.toArray⟩] w fun e w' => e = .returned (.string ⟨(Lib.join P sep).toArray⟩) ∧ Ext w w' := by
  rcases ho.form with ⟨_, h1⟩ | ⟨g0, c0, rfl, h1, h2, h3, h4⟩
  · rw [h1] at h0; simp at h0
  have e7 : List.map ((fun x : ByteArray => x.data.toList) ∘ fun l : List UInt8 => (⟨l.toArray⟩ : ByteArray)) P = P := by
    rw [show ((fun x : ByteArray => x.data.toList) ∘ fun l : List UInt8 => (⟨l.toArray⟩ : ByteArray)) = id from rfl, List.map_id]
  have hc := Sstrings_Join g0 0 c0 (P.map fun l => ⟨l.toArray⟩) ⟨sep.toArray⟩ w (fun j x hx => by
    rw [List.getElem?_map] at hx
    cases hy : P[j]? with
    | none => rw [hy] at hx; cases hx
    | some y =>
      rw [hy] at hx
      injection hx with hx
      subst hx
      have := ho.2.cells (g := g0) rfl (j * 1 + 0) (.string ⟨y.toArray⟩) (by rw [flat_get ho.1 P j 0 y hy (by decide)]; rfl)
      rw [add_lit, Nat.mul_one, Nat.add_zero] at this
      rw [Nat.zero_add]; exact this) h2 (by rw [List.length_map]; omega) (by rw [List.length_map]; exact h3) (by
    rw [List.map_map, e7]
    show (Lib.join P sep).length ≤ _
    omega)
  rw [List.length_map, List.map_map, e7] at hc
  refine hc.mono ?_
  rintro e V ⟨rfl, hbe⟩
  exact ⟨rfl, ⟨hbe⟩⟩
theorem joinW_len : ∀ (P : List (List UInt8)), (∀ x ∈ P, x.length ≤ 40) → (Lib.join P sepW).length ≤ P.length * 43
  | [], _ => by simp [Lib.join_nil]
  | x :: r, h => by
    have key : ∀ (r : List (List UInt8)), (∀ y ∈ r, y.length ≤ 40) → (Lib.joinTail sepW r).length ≤ r.length * 43 := by
      intro r
      induction r with
      | nil => intro _; simp [Lib.joinTail]
      | cons y r ih =>
        intro hr
        have h3 := ih fun z hz => hr z (by simp [hz])
        have h4 := hr y (by simp)
        unfold Lib.joinTail at h3 ⊢
        have e1 : (sepW ++ y).length = 3 + y.length := by rw [List.length_append]; rfl
        rw [List.map_cons, List.flatten_cons, List.length_append, e1, List.length_cons, Nat.succ_mul]
        omega
    have h1 := h x (by simp)
    have h2 := key r fun y hy => h y (by simp [hy])
    rw [Lib.join_cons, List.length_append, List.length_cons, Nat.succ_mul]; omega
theorem wtx_len {n : Nat} {l : List Rd} (h : WordOk n l) : (wtx l).length ≤ l.length * 43 + 4 := by
  unfold wtx
  split
  · show 4 ≤ _; omega
  · have := joinW_len (l.map rtx) (fun x hx => by obtain ⟨r, hr, rfl⟩ := List.mem_map.1 hx; exact rtx_len (word_mem h r hr))
    rw [List.length_map] at this
    show (Lib.join (l.map rtx) sepW).length ≤ _
    omega
/-- The texts of the first i rounds. -/
def textsL (l : List Rd) (i : Nat) : List (List UInt8) := (l.take i).map rtx
theorem textsL_succ {l : List Rd} {i : Nat} (h : i < l.length) : textsL l (i + 1) = textsL l i ++ [rtx (l.getD i default)] := by
  unfold textsL
  rw [List.take_succ_eq_append_getElem h, List.map_append, List.getD_eq_getElem?_getD, List.getElem?_eq_getElem h]; rfl
theorem textsL_len {l : List Rd} {i : Nat} (h : i ≤ l.length) : (textsL l i).length = i := by unfold textsL; rw [List.length_map, List.length_take]; omega
theorem wtx_join {l : List Rd} (h : l.length ≠ 0) : wtx l = Lib.join (textsL l l.length) sepW := by
  unfold wtx textsL
  rw [if_neg (fun e => h (by rw [e]; rfl)), List.take_length]
set_option maxRecDepth 16000 in
set_option maxHeartbeats 2000000 in
theorem rdformat_any (n : Int) (l : List Rd) (v : Value) (w : World) (hT : Tz w) (hv : Row Rd.cells 7 w v l) : Calls Tryd.prog 23 #[.int .i64 n, v] w (RetV1 (.string ⟨(formatS n l).1.toArray⟩, (formatS n l).2) w) := by
  have HW := hide (fun W (hE : Ext w W) => rword_any n l v W (hv.ext hE))
  obtain ⟨p, c, rfl, hc, hlen, hat⟩ := hv.rd_all
  have HA := hide hat
  clear hv hat
  unfold formatS
  by_cases h0 : wordE n l = 0
  case neg =>
    rw [if_pos h0]
    have hd : (wordE n l != 0) = true := by simp [h0]
    have H0 := hide h0
    clear h0 HA hT
    generalize wordE n l = x at *
    go_enter Tryd.func23, Tryd.ntmps23
    go_wp2_with fail
    refine (HW.out _ (Ext.refl _)).mono ?_
    rintro e w1 ⟨rfl, hE⟩
    have HE := hide hE
    clear hE
    go_wp2_with fail
    go_ret2
    exact ⟨rfl, HE.out⟩
  case pos =>
  obtain ⟨m, rfl, ho⟩ := word_of h0
  rw [if_neg (fun k => k h0)]
  rw [h0] at HW
  by_cases hl0 : l.length = 0
  · have hnil : l = [] := List.length_eq_zero_iff.1 hl0
    subst hnil
    clear h0 ho HA hT hl0
    go_enter Tryd.func23, Tryd.ntmps23
    go_wp2_with fail
    refine (HW.out _ (Ext.refl _)).mono ?_
    rintro e w1 ⟨rfl, hE⟩
    have HE := hide hE
    clear hE
    go_wp2_with fail
    go_ret2
    exact ⟨rfl, HE.out⟩
  · have HX := hide (wtx_join hl0)
    have HTX := hide (fun i (hi : i < l.length) W (hE : Ext w W) => rdtext_any (l.getD i default) (ho.wf i hi) W (hT.ext hE))
    have HS := hide (fun i (hi : i < l.length) => textsL_succ hi)
    have HTL := hide (fun i (hi : i ≤ l.length) => textsL_len hi)
    have HT0 : Hid (textsL l 0 = []) := rfl
    have hlen1 := ho.len
    have HJL : Hid ((Lib.join (textsL l l.length) sepW).length ≤ 100000000) := by
      show _ ≤ _
      have h1 := wtx_len ho
      rw [wtx_join hl0] at h1
      omega
    have hd : ((l.length : Int) == 0) = false := by rw [beq_eq_false_iff_ne]; omega
    rw [HX.out]
    generalize textsL l = tl at *
    have HL0 := hide hl0
    clear h0 ho hT hl0 HX
    go_enter Tryd.func23, Tryd.ntmps23
    go_wp2_with fail
    refine (HW.out _ (Ext.refl _)).mono ?_
    rintro e w1 ⟨rfl, hE⟩
    have HE := hide hE
    clear hE
    go_wp2_with fail
    have HO : Hid (Own scell 1 w1 w.heap.size 9 (.slice none 0 0) (tl 0)) := by show Own _ _ _ _ _ _ _; rw [HT0.out]; exact Own.nil _ _ _ (fun _ => rfl)
    go_loopw [23, 7, 9, 10, 11] (fun x u _ _ _ V => ∃ i : Nat, i ≤ l.length ∧ x = .int .i64 i ∧ Hid (Ext w V) ∧ Hid (Own scell 1 V w.heap.size 9 u (tl i))) (fun x _ _ _ _ _ => l.length - (intOf x).toNat)
    case atStart => exact ⟨0, by omega, rfl, HE, HO⟩
    case round =>
      clear HE HO
      obtain ⟨i, hi, rfl, HE, HO⟩ := hrel
      by_cases hlt : i < l.length
      · obtain ⟨b, o, rfl, hb, hat⟩ := HA.out (by omega)
        have hx := hat i hlt
        have HC2 := hide (HTX.out i hlt)
        have HSS := hide (HS.out i hlt)
        have HTI := hide (HTL.out i (by omega))
        generalize rtx (l.getD i default) = tx at HC2 HSS
        generalize l.getD i default = r at hx HC2
        obtain ⟨x0, x1, x2, x3, x4, x5, x6⟩ := hx
        replace x0 := x0 _ HE.out
        replace x1 := x1 _ HE.out
        replace x2 := x2 _ HE.out
        replace x3 := x3 _ HE.out
        replace x4 := x4 _ HE.out
        replace x5 := x5 _ HE.out
        replace x6 := x6 _ HE.out
        obtain ⟨su, sc, rfl⟩ := HO.out.sl
        rw [HTI.out]
        clear hat
        go_upto_region 10 with fail
        clear x0 x1 x2 x3 x4 x5 x6
        have HE := hide (HE.out.alloc (robj r))
        have HO : Hid (Own scell 1 (wr.alloc (robj r)) w.heap.size 9 (.slice su i sc) (tl i)) := by have := HO.out.alloc (robj r); rwa [HTI.out] at this
        have HB10 : Hid (RdBox (wr.alloc (robj r)) wr.heap.size r) := rd_new wr r
        change Code.wp _ _ _ _ (wr.alloc (robj r))
        generalize wr.alloc (robj r) = W3 at HE HO HB10 ⊢
        generalize wr.heap.size = b10 at HB10 ⊢
        obtain ⟨c0, c1, c2, c3, c4, c5, c6, cz⟩ := HB10.out.cells
        go_wp2_with fail
        clear c0 c1 c2 c3 c4 c5 c6 cz
        refine (HC2.out _ HE.out).mono ?_
        rintro e w4 ⟨rfl, hE⟩
        have HE := hide (HE.out.trans hE)
        have HO := hide (HO.out.ext hE)
        clear hE HB10
        go_wp2_with (at_builtin; refine wpList_append1 rfl (.tmp 35) (.tmp 37) 88 rfl w.heap.size 9 (.string ⟨#[]⟩) 1 16 Tryd.underlying88 string_info rfl (by decide) _ (tl i) tx w4.heap.size rfl (HO.out.alloc _) rfl (cell_new1 _ _ _) (string_one tx) (by have := HTI.out; omega) (by decide) (by simp only [World.size_alloc]; have := HE.out.size; omega) ?_; intro v' W6 hown' hg6 hf6; obtain ⟨g7, c7, rfl, -⟩ := hf6)
        have hge : ∀ k, (Value.slice su i sc).ownBlock = some k → w.heap.size ≤ k := HO.out.block_ge
        have hE6 : Ext w W6 := (HE.out.alloc _).grown hg6 (fun k hk => by have := hge k hk; omega)
        rw [← HSS.out] at hown'
        have HFIN := hide (And.intro hE6 hown')
        clear hge hE6 hown' hg6 HSS HTI
        go_wp2_with fail
        go_roundw
        case rel => exact ⟨i + 1, by omega, by go_num, HFIN.out.1, HFIN.out.2⟩
        case measure => simp [intOf]; omega
      · obtain rfl : i = l.length := by omega
        have HJ := hide (join_own w.heap.size (tl l.length) sepW _ wr HO.out (by rw [HTL.out _ (Nat.le_refl _)]; exact Nat.pos_of_ne_zero HL0.out) (by rw [HTL.out _ (Nat.le_refl _)]; exact Nat.le_trans hlen1 (by decide)) HJL.out)
        obtain ⟨su, sc, rfl⟩ := HO.out.sl
        go_wp2_with fail
        refine HJ.out.mono ?_
        rintro e w5 ⟨rfl, hE⟩
        have HE := hide (HE.out.trans hE)
        clear hE
        go_wp2_with fail
        go_ret2
        exact ⟨rfl, HE.out⟩
/-- The elements below p. -/
def elTo (s p : Nat) : List Int := ((List.range p).filter fun m => s.testBit m).map fun m : Nat => (m : Int)
theorem elTo_yes {s p : Nat} (h : s.testBit p = true) : elTo s (p + 1) = elTo s p ++ [(p : Int)] := by unfold elTo; rw [List.range_succ, List.filter_append, List.map_append]; simp [h]
theorem elTo_no {s p : Nat} (h : s.testBit p = false) : elTo s (p + 1) = elTo s p := by unfold elTo; rw [List.range_succ, List.filter_append, List.map_append]; simp [h]
theorem elTo_len (s : Nat) : ∀ p, (elTo s p).length ≤ p
  | 0 => by simp [elTo]
  | p + 1 => by
    have := elTo_len s p
    cases h : s.testBit p with
    | true => rw [elTo_yes h]; simp; omega
    | false => rw [elTo_no h]; omega
set_option maxRecDepth 16000 in
set_option maxHeartbeats 1000000 in
theorem rlist_any (s : Nat) (hs : s < 32) (w : World) : Calls Tryd.prog 88 #[.int .i64 s] w fun e w' => (∃ v, e = .returned v ∧ Own icells 1 w' w.heap.size 3 v (elI s)) ∧ Ext w w' := by
  have HH : Hid (∀ p W, p < 5 → Calls Tryd.prog 75 #[.int .i64 s, .int .i64 (p : Nat)] W fun e w' => e = .returned (.bool (s.testBit p)) ∧ w' = W) := fun p W hp => by
    have h := rhas_any (s : Int) (p : Int) W (by omega) (by omega) (by omega) (by omega)
    rwa [Int.toNat_natCast, has_nat] at h
  have HY := hide (fun p h => elTo_yes (s := s) (p := p) h)
  have HNo := hide (fun p h => elTo_no (s := s) (p := p) h)
  have HL := hide (elTo_len s)
  have H0 : Hid (elTo s 0 = []) := rfl
  have H5 : Hid (elI s = elTo s 5) := rfl
  generalize elTo s = et at *
  generalize elI s = res at H5 ⊢
  go_enter Tryd.func88, Tryd.ntmps88
  go_wp2_with fail
  have HO : Hid (Own icells 1 w w.heap.size 3 (.slice none 0 0) (et 0)) := by show Own _ _ _ _ _ _ _; rw [H0.out]; exact Own.nil _ _ _ (fun _ => rfl)
  go_loopw [4, 3] (fun x u V => ∃ p : Nat, p ≤ 5 ∧ x = .int .i64 p ∧ Hid (Ext w V) ∧ Hid (Own icells 1 V w.heap.size 3 u (et p))) (fun x _ _ => 5 - (intOf x).toNat)
  case atStart => exact ⟨0, by omega, rfl, Ext.refl _, HO⟩
  case round =>
    clear HO
    obtain ⟨p, hp, rfl, HE, HO⟩ := hrel
    obtain ⟨su, sc, rfl⟩ := HO.out.sl
    by_cases hlt : p < 5
    · have HC := hide (fun W => HH.out p W hlt)
      have hpI : (p : Int) < 5 := by omega
      cases hb : s.testBit p with
      | false =>
        rw [hb] at HC
        have HS := hide (HNo.out p hb)
        have HO2 : Hid (Own icells 1 wr w.heap.size 3 (.slice su (et p).length sc) (et (p + 1))) := by show Own _ _ _ _ _ _ _; rw [HS.out]; exact HO.out
        clear hb HS
        generalize (et p).length = n at HO HO2 ⊢
        go_wp2_with fail
        refine (HC.out _).mono ?_
        rintro e w1 ⟨rfl, rfl⟩
        go_wp2_with fail
        go_roundw
        case rel => exact ⟨p + 1, by omega, by go_num, HE, HO2⟩
        case measure => simp [intOf]; omega
      | true =>
        rw [hb] at HC
        have HS := hide (HY.out p hb)
        have HLP := hide (HL.out p)
        clear hb
        go_wp2_with fail
        refine (HC.out _).mono ?_
        rintro e w1 ⟨rfl, rfl⟩
        go_wp2_with (at_builtin; refine wpList_append1 rfl (.tmp 12) (.tmp 14) 27 rfl w.heap.size 3 (.int .i64 0) 1 8 Tryd.underlying27 int_info rfl (by decide) _ (et p) (p : Int) w1.heap.size rfl (HO.out.alloc _) rfl (cell_new1 _ _ _) (int_one _) (by have := HLP.out; omega) (by decide) (by simp only [World.size_alloc]; have := HE.out.size; omega) ?_; intro v' W6 hown' hg6 hf6; obtain ⟨g7, c7, rfl, -⟩ := hf6)
        have hge : ∀ k, (Value.slice su (et p).length sc).ownBlock = some k → w.heap.size ≤ k := HO.out.block_ge
        have hE6 : Ext w W6 := (HE.out.alloc _).grown hg6 (fun k hk => by have := hge k hk; omega)
        rw [← HS.out] at hown'
        have HFIN := hide (And.intro hE6 hown')
        clear hge hE6 hown' hg6 HS HLP
        go_wp2_with fail
        go_roundw
        case rel => exact ⟨p + 1, by omega, by go_num, HFIN.out.1, HFIN.out.2⟩
        case measure => simp [intOf]; omega
    · obtain rfl : p = 5 := by omega
      have HFIN : Hid (Own icells 1 wr w.heap.size 3 (.slice su (et 5).length sc) res) := by show Own _ _ _ _ _ _ _; rw [H5.out]; exact HO.out
      generalize (et 5).length = n at HFIN ⊢
      clear HO
      go_wp2_with fail
      go_ret
      exact ⟨⟨_, rfl, HFIN.out⟩, HE.out⟩
/-- The text of a round while its faulty ones are laid. -/
def rts (r : Rd) (k : Nat) : ByteArray := if r.f = 0 then ⟨(wrt r.g).toArray⟩ else rtk r k
theorem elI_ne {r : Rd} {n : Nat} (hr : RWf r n) (h : r.f ≠ 0) : 0 < (elI r.f.toNat).length := by
  rw [elI_length]
  have key : ∀ s, s < 32 → s ≠ 0 → 0 < (el s).length := by decide +kernel
  exact key _ (n32' hr.g.n5 hr.f_lt) (by have := hr.f_eq; omega)
theorem enc48 : Utf8.encode 48 = ⟨#[48]⟩ := by decide +kernel
theorem enc49 : Utf8.encode 49 = ⟨#[49]⟩ := by decide +kernel
theorem enc50 : Utf8.encode 50 = ⟨#[50]⟩ := by decide +kernel
theorem enc51 : Utf8.encode 51 = ⟨#[51]⟩ := by decide +kernel
theorem enc52 : Utf8.encode 52 = ⟨#[52]⟩ := by decide +kernel
theorem rune_str (m : Nat) (hm : m < 5) (W : World) : (convert 21 9 (.int .i32 (48 + (m : Int)))).run Tryd.prog W = .ok (.string ⟨#[UInt8.ofNat (48 + m)]⟩) W := by
  obtain rfl | rfl | rfl | rfl | rfl : m = 0 ∨ m = 1 ∨ m = 2 ∨ m = 3 ∨ m = 4 := by omega
  all_goals kernel_rfl
set_option maxRecDepth 16000 in
set_option maxHeartbeats 2000000 in
theorem rwtext_any (n : Nat) (l : List Rd) (ho : WordOk n l) (v : Value) (w : World) (hv : Row Rd.cells 7 w v l) : Calls Tryd.prog 55 #[v] w fun e w' => e = .returned (.string ⟨(wtx l).toArray⟩) ∧ Ext w w' := by
  obtain ⟨p, c, rfl, hc, hlen, hat⟩ := hv.rd_all
  have HA := hide hat
  clear hv hat
  by_cases hl0 : l.length = 0
  · have hnil : l = [] := List.length_eq_zero_iff.1 hl0
    subst hnil
    clear ho HA hl0
    go_enter Tryd.func55, Tryd.ntmps55
    go_wp2_with fail
    go_ret
    exact ⟨rfl, Ext.refl _⟩
  · have HX := hide (wtx_join hl0)
    have HTX := hide (fun i (hi : i < l.length) W => rtext_any (l.getD i default).g (ho.wf i hi).g W)
    have HLS := hide (fun i (hi : i < l.length) W => rlist_any (l.getD i default).f.toNat (n32' ho.n5 (ho.wf i hi).f_lt) W)
    have HFE := hide (fun i (hi : i < l.length) => (ho.wf i hi).f_eq)
    have HRW := hide (fun i (hi : i < l.length) => ho.wf i hi)
    have HS := hide (fun i (hi : i < l.length) => textsL_succ hi)
    have HTL := hide (fun i (hi : i ≤ l.length) => textsL_len hi)
    have HT0 : Hid (textsL l 0 = []) := rfl
    have hlen1 := ho.len
    have HJL : Hid ((Lib.join (textsL l l.length) sepW).length ≤ 100000000) := by
      show _ ≤ _
      have h1 := wtx_len ho
      rw [wtx_join hl0] at h1
      omega
    have hd : ((l.length : Int) == 0) = false := by rw [beq_eq_false_iff_ne]; omega
    rw [HX.out]
    generalize textsL l = tl at *
    have HL0 := hide hl0
    clear ho hl0 HX
    go_enter Tryd.func55, Tryd.ntmps55
    go_wp2_with fail
    have HO : Hid (Own scell 1 w w.heap.size 9 (.slice none 0 0) (tl 0)) := by show Own _ _ _ _ _ _ _; rw [HT0.out]; exact Own.nil _ _ _ (fun _ => rfl)
    go_loopw [4, 3, 5, 6, 7] (fun x u _ _ _ V => ∃ i : Nat, i ≤ l.length ∧ x = .int .i64 i ∧ Hid (Ext w V) ∧ Hid (Own scell 1 V w.heap.size 9 u (tl i))) (fun x _ _ _ _ _ => l.length - (intOf x).toNat)
    case atStart => exact ⟨0, by omega, rfl, Ext.refl _, HO⟩
    case round =>
      clear HO
      obtain ⟨i, hi, rfl, HE, HO⟩ := hrel
      by_cases hlt : i < l.length
      · obtain ⟨b, o, rfl, hb, hat⟩ := HA.out (by omega)
        have hx := hat i hlt
        have HC2 := hide (HTX.out i hlt)
        have HC3 := hide (HLS.out i hlt)
        have hfe := HFE.out i hlt
        have hrw := HRW.out i hlt
        have HSS := hide (HS.out i hlt)
        have HTI := hide (HTL.out i (by omega))
        generalize l.getD i default = r at hx HC2 HC3 HSS hfe hrw
        rw [← hfe] at HC3
        have HR0 : Hid (r.f = 0 → rts r 0 = ⟨(wrt r.g).toArray⟩ ∧ elI r.f.toNat = []) := fun h => ⟨by unfold rts; rw [if_pos h], by rw [h]; rfl⟩
        have HR1 : Hid (r.f ≠ 0 → (⟨(wrt r.g).toArray⟩ : ByteArray) ++ (⟨#[32, 33]⟩ : ByteArray) = rts r 0 ∧ 0 < (elI r.f.toNat).length) := fun h => ⟨by unfold rts; rw [if_neg h]; exact rtk_zero r, elI_ne hrw h⟩
        have HST : Hid (∀ k, k < (elI r.f.toNat).length → ∃ m : Nat, m < 5 ∧ (elI r.f.toNat).getD k 0 = (m : Int) ∧ rts r k ++ (⟨#[UInt8.ofNat (48 + m)]⟩ : ByteArray) = rts r (k + 1)) := fun k hk => by
          have hne : r.f ≠ 0 := fun h => by rw [h] at hk; simp [elI, el_zero] at hk
          rw [elI_length] at hk
          refine ⟨(el r.f.toNat)[k], (el_lt (List.getElem_mem hk)).1, ?_, ?_⟩
          · unfold elI; rw [List.getD_eq_getElem?_getD, List.getElem?_map, List.getElem?_eq_getElem hk]; rfl
          · unfold rts; rw [if_neg hne, if_neg hne]; exact rtk_succ r hk
        have HSZ : Hid (∀ k, (rts r k).size ≤ 50) := fun k => by
          unfold rts
          split
          · show (wrt r.g).toArray.size ≤ 50
            rw [List.size_toArray]; have := wrt_len hrw.g; omega
          · exact rtk_size hrw k
        have HRE : Hid (rts r (elI r.f.toNat).length = ⟨(rtx r).toArray⟩) := by
          show _ = _
          unfold rts
          by_cases h : r.f = 0
          · rw [if_pos h]; unfold rtx; rw [if_pos h, List.append_nil]
          · rw [if_neg h, elI_length]; exact rtk_all r h
        have HEL5 : Hid ((elI r.f.toNat).length ≤ 5) := by show _ ≤ _; rw [elI_length]; exact el_len _
        have hts : (⟨(wrt r.g).toArray⟩ : ByteArray).size ≤ 30 := by
          show (wrt r.g).toArray.size ≤ 30
          rw [List.size_toArray]; exact wrt_len hrw.g
        generalize (⟨(wrt r.g).toArray⟩ : ByteArray) = t0 at HC2 HR0 HR1 hts
        have hts2 : t0.size + 2 ≤ 9223372036854775807 := by omega
        generalize rtx r = tx at HSS HRE
        generalize rts r = rt at HR0 HR1 HST HSZ HRE
        generalize elI r.f.toNat = eI at HC3 HR0 HR1 HST HRE HEL5
        obtain ⟨x0, x1, x2, x3, x4, x5, x6⟩ := hx
        have HX6 := hide x6
        replace x0 := x0 _ HE.out
        replace x1 := x1 _ HE.out
        replace x2 := x2 _ HE.out
        replace x3 := x3 _ HE.out
        replace x4 := x4 _ HE.out
        replace x5 := x5 _ HE.out
        obtain ⟨su, sc, rfl⟩ := HO.out.sl
        rw [HTI.out] at HO ⊢
        clear hat x6 hfe hrw
        go_wp2_with fail
        clear x0 x1 x2 x3 x4 x5
        refine (HC2.out _).mono ?_
        rintro e w3 ⟨rfl, hE⟩
        have HE := hide (HE.out.trans hE)
        have HO := hide (HO.out.ext hE)
        clear hE
        have x6 := HX6.out _ HE.out
        go_wp2_with fail
        clear x6
        refine (HC3.out _).mono ?_
        rintro e w4 ⟨⟨u, rfl, hu⟩, hE⟩
        have HE := hide (HE.out.trans hE)
        have HO := hide (HO.out.ext hE)
        have HR := hide (hu.row (by have := HEL5.out; omega))
        clear hE hu
        obtain ⟨pe, ce, rfl, hce, hle, hae⟩ := HR.out.int_all
        have HAE := hide hae
        clear hae
        go_upto_if 31 with fail
        go_cut [5] from 29 to 33 (fun t V => t = .string (rt 0) ∧ V = w4)
        case first =>
          by_cases hf : r.f = 0
          · obtain ⟨k1, k2⟩ := HR0.out hf
            have hz : ¬ (0 : Int) < (eI.length : Int) := by rw [k2]; decide
            have hz2 : eI.length = 0 := by rw [k2]; rfl
            have HZ2 := hide hz2
            have hz3 : decide (0 < eI.length) = false := by simp [hz2]
            have K1 := hide k1
            clear k1 k2 hz2
            have HF := hide hf
            clear hf
            go_wp2_with fail
            go_meet
            exact ⟨by rw [K1.out], rfl⟩
          · obtain ⟨k1, k2⟩ := HR1.out hf
            have K1 := hide k1
            have HF := hide hf
            clear k1 hf
            go_wp2_with fail
            go_meet
            exact ⟨by rw [K1.out], rfl⟩
        case rest =>
          obtain ⟨rfl, rfl⟩ := hcut
          have hL5 := HEL5.out
          clear HR HR0 HR1 hts hts2 HC2 HC3
          generalize eI.length = L at *
          generalize eI.getD = ed at HAE HST
          go_wp2_with fail
          go_loopw [7, 5] (fun x t V => ∃ k : Nat, k ≤ L ∧ x = .int .i64 k ∧ t = .string (rt k) ∧ V = wc) (fun x _ _ => L - (intOf x).toNat)
          case atStart => exact ⟨0, by omega, rfl, rfl, rfl⟩
          case round =>
            obtain ⟨k, hk, rfl, rfl, rfl⟩ := hrel
            by_cases hlk : k < L
            · obtain ⟨b2, o2, rfl, hb2, hat2⟩ := HAE.out (by omega)
              have hx2 := hat2 k hlk _ (Ext.refl _)
              obtain ⟨m, hm, hme, hcat⟩ := HST.out k hlk
              rw [hme] at hx2
              have HCAT := hide hcat
              have hsz := HSZ.out k
              have hss : (rt k).size + 1 ≤ 9223372036854775807 := by omega
              clear hat2 hme hcat
              have u0 := enc48
              have u1 := enc49
              have u2 := enc50
              have u3 := enc51
              have u4 := enc52
              obtain rfl | rfl | rfl | rfl | rfl : m = 0 ∨ m = 1 ∨ m = 2 ∨ m = 3 ∨ m = 4 := by omega
              all_goals
                go_wp2_with fail
                go_roundw
                case rel => exact ⟨k + 1, by omega, by go_num, by rw [← HCAT.out]; rfl, by trivial⟩
                case measure => simp [intOf]; omega
            · obtain rfl : k = L := by omega
              rw [HRE.out]
              clear HRE HST HSZ
              go_wp2_with (at_builtin; refine wpList_append1 rfl (.tmp 49) (.tmp 51) 88 rfl w.heap.size 9 (.string ⟨#[]⟩) 1 16 Tryd.underlying88 string_info rfl (by decide) _ (tl i) tx wr.heap.size rfl (HO.out.alloc _) rfl (cell_new1 _ _ _) (string_one tx) (by have := HTI.out; omega) (by decide) (by simp only [World.size_alloc]; have := HE.out.size; omega) ?_; intro v' W6 hown' hg6 hf6; obtain ⟨g7, c7, rfl, -⟩ := hf6)
              have hge : ∀ k, (Value.slice su i sc).ownBlock = some k → w.heap.size ≤ k := HO.out.block_ge
              have hE6 : Ext w W6 := (HE.out.alloc _).grown hg6 (fun k hk => by have := hge k hk; omega)
              rw [← HSS.out] at hown'
              have HFIN := hide (And.intro hE6 hown')
              clear hge hE6 hown' hg6 HSS HTI
              go_wp2_with fail
              go_roundw
              case rel => exact ⟨i + 1, by omega, by go_num, HFIN.out.1, HFIN.out.2⟩
              case measure => simp [intOf]; omega
      · obtain rfl : i = l.length := by omega
        have HJ := hide (join_own w.heap.size (tl l.length) sepW _ wr HO.out (by rw [HTL.out _ (Nat.le_refl _)]; exact Nat.pos_of_ne_zero HL0.out) (by rw [HTL.out _ (Nat.le_refl _)]; exact Nat.le_trans hlen1 (by decide)) HJL.out)
        obtain ⟨su, sc, rfl⟩ := HO.out.sl
        go_wp2_with fail
        refine HJ.out.mono ?_
        rintro e w5 ⟨rfl, hE⟩
        have HE := hide (HE.out.trans hE)
        clear hE
        go_wp2_with fail
        go_ret
        exact ⟨rfl, HE.out⟩
set_option maxHeartbeats 1000000 in
theorem rrdformat_any (n : Int) (l : List Rd) (v : Value) (w : World) (hv : Row Rd.cells 7 w v l) : Calls Tryd.prog 24 #[.int .i64 n, v] w (RetV1 (.string ⟨(formatS n l).1.toArray⟩, (formatS n l).2) w) := by
  have HW := hide (fun W (hE : Ext w W) => rrword_any n l v W (hv.ext hE))
  have HV := hide hv
  obtain ⟨p, c, rfl, -⟩ := hv.rd_all
  clear hv
  unfold formatS
  by_cases h0 : wordE n l = 0
  · obtain ⟨m, rfl, ho⟩ := word_of h0
    rw [if_neg (fun k => k h0)]
    rw [h0] at HW
    have HAL := hide (fun W (hE : Ext w W) => rwtext_any m l ho _ W (HV.out.ext hE))
    generalize wtx l = res at HAL ⊢
    clear h0 ho
    go_enter Tryd.func24, Tryd.ntmps24
    go_wp2_with fail
    refine (HW.out _ (Ext.refl _)).mono ?_
    rintro e w1 ⟨rfl, hE⟩
    have HE := hide hE
    clear hE
    go_wp2_with fail
    refine (HAL.out _ HE.out).mono ?_
    rintro e w2 ⟨rfl, hE⟩
    have HE := hide (HE.out.trans hE)
    clear hE
    go_wp2_with fail
    go_ret2
    exact ⟨rfl, HE.out⟩
  · rw [if_pos h0]
    have hd : (wordE n l != 0) = true := by simp [h0]
    have H0 := hide h0
    clear h0
    generalize wordE n l = x at *
    go_enter Tryd.func24, Tryd.ntmps24
    go_wp2_with fail
    refine (HW.out _ (Ext.refl _)).mono ?_
    rintro e w1 ⟨rfl, hE⟩
    have HE := hide hE
    clear hE
    go_wp2_with fail
    go_ret2
    exact ⟨rfl, HE.out⟩
end Go.Proofs.YtfnhjalnbmnlaaaDoor
