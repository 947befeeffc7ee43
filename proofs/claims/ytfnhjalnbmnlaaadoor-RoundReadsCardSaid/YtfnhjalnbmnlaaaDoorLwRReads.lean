/-
  The walk of 'RoundReads'.
  Conditions: the tables lie in the heap (Tz, Ml).
-/
import Derived.Test.YtfnhjalnbmnlaaaDoorAw15
import Derived.Test.YtfnhjalnbmnlaaaDoorRdFew
import Derived.Test.YtfnhjalnbmnlaaaDoorRdParR
namespace Go.Proofs.YtfnhjalnbmnlaaaDoor
open Go.RowKit
attribute [local go_sem] Oper.semAt_some

theorem parseW_len (n : Int) (s : List UInt8) : (parseW n s).1.length ≤ 1024 := by
  unfold parseW
  split
  · exact Nat.zero_le _
  split
  · exact Nat.zero_le _
  split
  · exact Nat.zero_le _
  split
  · exact Nat.zero_le _
  · split
    · exact Nat.zero_le _
    · rename_i l _ h
      obtain ⟨m, _, ho⟩ := word_of (Decidable.not_not.1 h)
      exact ho.len
set_option maxRecDepth 100000 in
set_option maxHeartbeats 8000000 in
theorem rreads_law (n : Int) (l : List Rd) (u : Value) (s : ByteArray) (w : World) (hu : Row Rd.cells 7 w u l) (hT : Tz w) (hM : Ml w) : Calls Tryd.prog 5 #[.int .i64 n, u, .string s] w fun e w' => e = .returned (.bool true) ∧ Ext w w' := by
  have HAW := hide (fun W (hE : Ext w W) => awake_any W (hT.ext hE) (Ml.ext hM hE))
  have HC1 := hide (fun W (hE : Ext w W) => rdformat_any n l u W (hT.ext hE) (hu.ext hE))
  have HC2 := hide (fun W (hE : Ext w W) => rrdformat_any n l u W (hu.ext hE))
  have HC3 := hide (fun W (hE : Ext w W) (hs : s.size ≤ 1000000) => rdparse_any n s hs W (hT.ext hE) (Ml.ext hM hE))
  have HC4 := hide (fun W (hE : Ext w W) (hs : s.size ≤ 1000000) => rrdparse_any n s hs W (Ml.ext hM hE))
  have HPL := hide (parseW_len n s.data.toList)
  obtain ⟨p, c, rfl, hc, hlen, -⟩ := hu.rd_all
  have HF := hide (fun W => rdfew_any l p c W)
  clear hu hT hM
  generalize formatS n l = r1 at HC1 HC2
  generalize parseW n s.data.toList = r2 at HC3 HC4 HPL
  obtain ⟨x1, e1⟩ := r1
  obtain ⟨x2, e2⟩ := r2
  dsimp only at HC1 HC2 HPL
  generalize (⟨x1.toArray⟩ : ByteArray) = tx at HC1 HC2
  generalize fewB l = fb at HF
  have HE : Hid (Ext w w) := Ext.refl w
  go_enter Tryd.func5, Tryd.ntmps5
  go_wp2_with fail
  refine (HF.out _).mono ?_
  rintro e w0 ⟨rfl, rfl⟩
  cases fb with
  | false =>
    go_wp2_with fail
    refine (HAW.out _ HE.out).mono ?_
    rintro e w1 ⟨rfl, hE⟩
    have HE := hide (HE.out.trans hE)
    clear hE
    go_wp2_with fail
    go_ret
    exact ⟨rfl, HE.out⟩
  | true =>
    by_cases h4 : (400 : Int) < (s.size : Int)
    case pos =>
      go_wp2_with fail
      refine (HAW.out _ HE.out).mono ?_
      rintro e w1 ⟨rfl, hE⟩
      have HE := hide (HE.out.trans hE)
      clear hE
      go_wp2_with fail
      go_ret
      exact ⟨rfl, HE.out⟩
    case neg =>
    have HSZ : Hid (s.size ≤ 1000000) := by show _ ≤ _; omega
    go_wp2_with fail
    refine (HC1.out _ HE.out).mono ?_
    rintro e w1 ⟨rfl, hE⟩
    have HE := hide (HE.out.trans hE)
    clear hE
    go_wp2_with fail
    refine (HC2.out _ HE.out).mono ?_
    rintro e w2 ⟨rfl, hE⟩
    have HE := hide (HE.out.trans hE)
    clear hE
    go_wp2_with fail
    refine (HC3.out _ HE.out HSZ.out).mono ?_
    rintro e w3 ⟨v1, rfl, hO, hE⟩
    have HR1 := hide (hO.row (Nat.le_trans HPL.out (by decide)))
    have HE := hide (HE.out.trans hE)
    clear hE hO
    go_wp2_with fail
    refine (HC4.out _ HE.out HSZ.out).mono ?_
    rintro e w4 ⟨v2, rfl, hO, hE⟩
    have HR2 := hide (hO.row (Nat.le_trans HPL.out (by decide)))
    have HR1 := hide (HR1.out.ext hE)
    have HE := hide (HE.out.trans hE)
    clear hE hO
    have HSA := hide (rsame_rd x2 x2 v1 v2 w4 HR1.out HR2.out)
    rw [decide_eq_true (rfl : x2 = x2)] at HSA
    go_wp2_with fail
    refine (HSA.out).mono ?_
    rintro e w5 ⟨rfl, hE⟩
    have HE := hide (HE.out.trans hE)
    clear hE
    go_wp2_with fail
    refine (HAW.out _ HE.out).mono ?_
    rintro e w6 ⟨rfl, hE⟩
    have HE := hide (HE.out.trans hE)
    clear hE
    go_wp2_with fail
    go_ret
    exact ⟨rfl, HE.out⟩
end Go.Proofs.YtfnhjalnbmnlaaaDoor
