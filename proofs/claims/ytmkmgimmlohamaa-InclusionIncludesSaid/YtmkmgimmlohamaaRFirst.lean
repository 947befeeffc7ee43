/-
  The reference's First of law 20.
  Conditions: as each theorem states.
-/
import Derived.Test.YtmkmgimmlohamaaRSrchW
namespace Go.Proofs.Ytmkmgimmlohamaa
open Go.RowKit
attribute [local go_sem] Oper.semAt_some

/-- What the reference's First returns: the least word of the second that the first lacks, if there is one. -/
def RetFi (A B : Adv) (w : World) (en : Ending) (w' : World) : Prop :=
  ∃ x b word, en = .returned (.tuple #[x, .bool b]) ∧ Ext w w' ∧ Row Rd.cells 7 w' x word ∧ ((b = true ∧ lackW A B word ∧ ∀ u, lackW A B u → Wle word u) ∨ (b = false ∧ word = [] ∧ Inc A B))
set_option maxRecDepth 16000 in
set_option maxHeartbeats 1000000 in
theorem rfirst_any (A B : Adv) (u v : Value) (w : World) (hA : AdvRep w u A) (hB : AdvRep w v B) (h1 : achk A = 0) (h2 : achk B = 0) :
    Calls Try.prog 35 #[u, v] w (RetFi A B w) := by
  have HS := hide (fun W (hE : Ext w W) => rsearch_any A B u v W (hA.ext hE) (hB.ext hE) h1 h2)
  have HH1 := hide h1
  have HH2 := hide h2
  obtain ⟨p, c, rfl, -⟩ := hA.all_
  obtain ⟨q, d, rfl, -⟩ := hB.all_
  clear hA hB h1 h2
  have HE1 := hide (((Ext.refl w).alloc (.cells #[.int .i64 A.n, .slice p A.L c] 24)).alloc (.cells #[.int .i64 B.n, .slice q B.L d] 24))
  obtain ⟨W1, hW1⟩ : ∃ W1, (w.alloc (.cells #[.int .i64 A.n, .slice p A.L c] 24)).alloc (.cells #[.int .i64 B.n, .slice q B.L d] 24) = W1 := ⟨_, rfl⟩
  rw [hW1] at HE1
  have HW1 := hide hW1
  clear hW1
  go_enter Try.func35, Try.ntmps35
  go_wp2_with fail
  rw [HW1.out]
  refine (HS.out W1 HE1.out).mono ?_
  rintro e w2 ⟨hX, (⟨x, word, rfl, hr, hm, hle⟩ | ⟨y, l, rfl, hn, hf, -⟩)⟩
  · have HE2 := hide (HE1.out.trans hX)
    have HR := hide hr.1
    have HL := hide ((markI HH1.out HH2.out word).1 hm)
    have HLE : Hid (∀ u, lackW A B u → Wle word u) := fun u hu => hle u ((markI HH1.out HH2.out u).2 hu)
    clear hX hr hm hle
    go_wp2_with fail
    go_ret2
    exact ⟨x, true, word, rfl, HE2.out, HR.out, .inl ⟨rfl, HL.out, HLE.out⟩⟩
  · have HE2 := hide (HE1.out.trans hX)
    have HI := hide (inc_lack.2 fun u hu => hf.none_ u ((markI HH1.out HH2.out u).2 hu))
    clear hX hn hf
    go_wp2_with fail
    go_ret2
    exact ⟨_, false, [], rfl, HE2.out, Row.nil _ _ _, .inr ⟨rfl, rfl, HI.out⟩⟩
end Go.Proofs.Ytmkmgimmlohamaa
