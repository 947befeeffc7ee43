/-
  The walk of 'RoundReturns'.
  Conditions: the tables lie in the heap (Tz, Ml).
-/
import Derived.Test.YtfnhjalnbmnlaaaDoorAw15
import Derived.Test.YtfnhjalnbmnlaaaDoorRdFew
namespace Go.Proofs.YtfnhjalnbmnlaaaDoor
open Go.RowKit
attribute [local go_sem] Oper.semAt_some

/-- What the walk wants of two good words. -/
theorem ret_facts {n : Int} {a : List Rd} (h : a.length ≤ 12 ∧ wordE n a = 0) : ∃ m : Nat, n = m ∧ WordOk m a ∧ (wtx a).length ≤ 65536 ∧ formatS n a = (wtx a, 0) ∧ parseW n (wtx a) = (a, 0) := by
  obtain ⟨m, rfl, ho⟩ := word_of h.2
  have hl := wtx_len ho
  have h1 := h.1
  have h6 : (wtx a).length ≤ 65536 := by omega
  refine ⟨m, rfl, ho, h6, ?_, parse_wtx ho h6⟩
  unfold formatS
  rw [if_neg (fun k => k h.2)]
set_option maxRecDepth 100000 in
set_option maxHeartbeats 8000000 in
theorem rreturns_law (n : Int) (a : List Rd) (u : Value) (b : List Rd) (v : Value) (w : World) (hu : Row Rd.cells 7 w u a) (hv : Row Rd.cells 7 w v b) (hT : Tz w) (hM : Ml w) : Calls Tryd.prog 7 #[.int .i64 n, u, v] w fun e w' => e = .returned (.bool true) ∧ Ext w w' := by
  have HAW := hide (fun W (hE : Ext w W) => awake_any W (hT.ext hE) (Ml.ext hM hE))
  have HG1 := hide (fun W (hE : Ext w W) => rdgood_any n a u W (hu.ext hE))
  have HG2 := hide (fun W (hE : Ext w W) => rdgood_any n b v W (hv.ext hE))
  have HC1 := hide (fun W (hE : Ext w W) => rdformat_any n a u W (hT.ext hE) (hu.ext hE))
  have HC2 := hide (fun W (hE : Ext w W) => rdformat_any n b v W (hT.ext hE) (hv.ext hE))
  have HC3 := hide (fun (s : ByteArray) W (hE : Ext w W) (hs : s.size ≤ 1000000) => rdparse_any n s hs W (hT.ext hE) (Ml.ext hM hE))
  have HS2 := hide (fun W (hE : Ext w W) => rsame_rd a b u v W (hu.ext hE) (hv.ext hE))
  have HS1 := hide (fun x W (hE : Ext w W) hx => rsame_rd a a x u W hx (hu.ext hE))
  rw [decide_eq_true (rfl : a = a)] at HS1
  obtain ⟨p, c, rfl, hc, hlen, -⟩ := hu.rd_all
  obtain ⟨q, d, rfl, hd, hlen2, -⟩ := hv.rd_all
  clear hu hv hT hM
  have HE : Hid (Ext w w) := Ext.refl w
  by_cases ha : a.length ≤ 12 ∧ wordE n a = 0
  case neg =>
    have hga : goodB n a = false := decide_eq_false ha
    rw [hga] at HG1
    clear ha hga
    go_enter Tryd.func7, Tryd.ntmps7
    go_wp2_with fail
    refine (HG1.out _ HE.out).mono ?_
    rintro e w1 ⟨rfl, hE⟩
    have HE := hide (HE.out.trans hE)
    clear hE
    go_wp2_with fail
    refine (HAW.out _ HE.out).mono ?_
    rintro e w2 ⟨rfl, hE⟩
    have HE := hide (HE.out.trans hE)
    clear hE
    go_wp2_with fail
    go_ret
    exact ⟨rfl, HE.out⟩
  case pos =>
  have hga : goodB n a = true := decide_eq_true ha
  rw [hga] at HG1
  by_cases hb : b.length ≤ 12 ∧ wordE n b = 0
  case neg =>
    have hgb : goodB n b = false := decide_eq_false hb
    rw [hgb] at HG2
    clear hb hgb ha hga
    go_enter Tryd.func7, Tryd.ntmps7
    go_wp2_with fail
    refine (HG1.out _ HE.out).mono ?_
    rintro e w1 ⟨rfl, hE⟩
    have HE := hide (HE.out.trans hE)
    clear hE
    go_wp2_with fail
    refine (HG2.out _ HE.out).mono ?_
    rintro e w2 ⟨rfl, hE⟩
    have HE := hide (HE.out.trans hE)
    clear hE
    go_wp2_with fail
    refine (HAW.out _ HE.out).mono ?_
    rintro e w3 ⟨rfl, hE⟩
    have HE := hide (HE.out.trans hE)
    clear hE
    go_wp2_with fail
    go_ret
    exact ⟨rfl, HE.out⟩
  case pos =>
  have hgb : goodB n b = true := decide_eq_true hb
  rw [hgb] at HG2
  obtain ⟨m, rfl, hoa, hla, hfa, hpa⟩ := ret_facts ha
  obtain ⟨m', hm', hob, hlb, hfb, -⟩ := ret_facts hb
  obtain rfl : m = m' := by omega
  rw [hfa] at HC1
  rw [hfb] at HC2
  dsimp only at HC1 HC2
  have HC3 : Hid (∀ W, Ext w W → Calls Tryd.prog 25 #[.int .i64 m, .string ⟨(wtx a).toArray⟩] W (RetPs (a, 0) W)) := fun W hE => by
    have h := HC3.out ⟨(wtx a).toArray⟩ W hE (by show (wtx a).toArray.size ≤ _; simp; omega)
    rw [show parseW m (⟨(wtx a).toArray⟩ : ByteArray).data.toList = (a, 0) from hpa] at h
    exact h
  have HST : Hid (((⟨(wtx a).toArray⟩ : ByteArray).toList == (⟨(wtx b).toArray⟩ : ByteArray).toList) = decide (a = b)) := by
    show _ = _
    rw [Bool.eq_iff_iff, beq_iff_eq, decide_eq_true_iff, ByteArray.toList_eq, ByteArray.toList_eq]
    constructor
    · intro h
      exact wtx_inj hoa hob hla h
    · rintro rfl; rfl
  have HLA := hide (Nat.le_trans ha.1 (by decide : 12 ≤ 17592186044416))
  clear ha hb hga hgb hoa hob hla hlb hfa hfb hpa hm'
  generalize (⟨(wtx a).toArray⟩ : ByteArray) = ta at HC1 HC3 HST
  generalize (⟨(wtx b).toArray⟩ : ByteArray) = tb at HC2 HST
  generalize decide (a = b) = dd at HST HS2
  go_enter Tryd.func7, Tryd.ntmps7
  go_wp2_with fail
  refine (HG1.out _ HE.out).mono ?_
  rintro e w1 ⟨rfl, hE⟩
  have HE := hide (HE.out.trans hE)
  clear hE
  go_wp2_with fail
  refine (HG2.out _ HE.out).mono ?_
  rintro e w2 ⟨rfl, hE⟩
  have HE := hide (HE.out.trans hE)
  clear hE
  go_wp2_with fail
  refine (HC1.out _ HE.out).mono ?_
  rintro e w3 ⟨rfl, hE⟩
  have HE := hide (HE.out.trans hE)
  clear hE
  go_wp2_with fail
  refine (HC2.out _ HE.out).mono ?_
  rintro e w4 ⟨rfl, hE⟩
  have HE := hide (HE.out.trans hE)
  clear hE
  go_wp2_with fail
  refine (HC3.out _ HE.out).mono ?_
  rintro e w5 ⟨v1, rfl, hO, hE⟩
  have HR1 := hide (hO.row HLA.out)
  have HE := hide (HE.out.trans hE)
  clear hE hO
  have hst := HST.out
  go_wp2_with fail
  refine (HS1.out _ _ HE.out HR1.out).mono ?_
  rintro e w6 ⟨rfl, hE⟩
  have HE := hide (HE.out.trans hE)
  clear hE
  go_wp2_with fail
  refine (HS2.out _ HE.out).mono ?_
  rintro e w7 ⟨rfl, hE⟩
  have HE := hide (HE.out.trans hE)
  clear hE
  go_wp2_with fail
  refine (HAW.out _ HE.out).mono ?_
  rintro e w8 ⟨rfl, hE⟩
  have HE := hide (HE.out.trans hE)
  clear hE
  go_wp2_with fail
  go_ret
  exact ⟨rfl, HE.out⟩
end Go.Proofs.YtfnhjalnbmnlaaaDoor
