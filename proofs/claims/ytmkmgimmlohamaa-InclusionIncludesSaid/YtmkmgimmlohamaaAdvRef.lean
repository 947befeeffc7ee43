/-
  Contracts of the reference's functions on adversaries (roundtableref16): Moves, Few, the checks.
  Conditions: as each theorem states.
-/
import Derived.Test.YtmkmgimmlohamaaRep
namespace Go.Proofs.Ytmkmgimmlohamaa
open Go.RowKit

def movesN (A : Adv) : Nat := (A.st.map List.length).sum
theorem take_sum_succ {l : List (List Mv)} {k : Nat} (h : k < l.length) : ((l.take (k + 1)).map List.length).sum = ((l.take k).map List.length).sum + (l.getD k []).length := by
  rw [List.take_add_one, List.getElem?_eq_getElem h, List.getD_eq_getElem?_getD, List.getElem?_eq_getElem h, List.map_append, List.sum_append]
  simp
theorem take_sum_le {l : List (List Mv)} {B : Nat} (hB : ∀ i, i < l.length → (l.getD i []).length ≤ B) : ∀ k, k ≤ l.length → ((l.take k).map List.length).sum ≤ k * B := by
  intro k
  induction k with
  | zero => intro _; simp
  | succ k ih =>
    intro hk
    rw [take_sum_succ (by omega), Nat.succ_mul]
    have := ih (by omega)
    have := hB k (by omega)
    omega

theorem rmoves_any (A : Adv) (v : Value) (w : World) (hA : AdvRep w v A) (hn : A.st.length ≤ 1000) :
    Calls Try.prog 22 #[v] w fun e w' => e = .returned (.int .i64 (movesN A)) ∧ Ext w w' := by
  obtain ⟨s, rfl, hs⟩ := hA
  obtain ⟨p, c, rfl, hc, _, hat⟩ := hs.sl_at
  have HAT := hide hat
  clear hat
  unfold movesN
  go_enter Try.func22, Try.ntmps22
  go_wp2
  go_loop [3, 4] (fun t i => ∃ k : Nat, k ≤ A.st.length ∧ i = .int .i64 k ∧ t = .int .i64 ((((A.st.take k).map List.length).sum : Nat) : Int)) (fun _ i => A.st.length - (intOf i).toNat)
  case atStart => exact ⟨0, by omega, rfl, rfl⟩
  case round =>
    obtain ⟨k, hk, rfl, rfl⟩ := hrel
    have hB := take_sum_le (l := A.st) (B := 17592186044416) (fun i hi => (HAT.out i hi).choose_spec.choose_spec.choose_spec.choose_spec.2.2.2.2) k hk
    by_cases hlt : k < A.st.length
    · obtain ⟨b, o, q, d, rfl, hb, hcell, hr, hl⟩ := HAT.out k hlt
      have H1 := hide (take_sum_succ hlt)
      have hkb : k * 17592186044416 ≤ 1000 * 17592186044416 := Nat.mul_le_mul_right _ (by omega)
      generalize (A.st.getD k []).length = m at hcell hl H1
      generalize ((A.st.take k).map List.length).sum = t at hB H1
      clear hr
      go_wp2
      go_round
      case rel => exact ⟨k + 1, by omega, by go_num, by rw [H1.out]; go_num⟩
      case measure => simp [intOf]; omega
    · obtain rfl : k = A.st.length := by omega
      clear hB
      go_wp2
      go_ret
      exact ⟨by simp, (Ext.refl w).alloc _⟩
def afew (A : Adv) : Bool := decide (A.st.length ≤ 8) && decide (movesN A ≤ 40)
theorem rfew_any (A : Adv) (v : Value) (w : World) (hA : AdvRep w v A) :
    Calls Try.prog 25 #[v] w fun e w' => e = .returned (.bool (afew A)) ∧ Ext w w' := by
  have HM := hide (fun W (hE : Ext w W) (h : A.st.length ≤ 8) => rmoves_any A v W (hA.ext hE) (by omega))
  obtain ⟨s, rfl, hs⟩ := hA
  obtain ⟨p, c, rfl, hc, hl, hat⟩ := hs.sl_at
  clear hat hs
  unfold afew
  generalize movesN A = m at HM ⊢
  generalize A.st.length = l at HM hc hl ⊢
  by_cases h8 : l ≤ 8
  · have H := hide (fun W hE => HM.out W hE h8)
    clear HM
    go_enter Try.func25, Try.ntmps25
    go_wp2_with (go_at_call 22; refine (H.out _ (by simp [go_sem])).mono ?_; rintro e w1 ⟨rfl, hE⟩; obtain ⟨hc1, hf1⟩ := hE.rules)
    all_goals (go_ret; exact ⟨ret_bool (by simp [h8]; omega), ((Ext.refl w).alloc _).trans hE⟩)
  · go_enter Try.func25, Try.ntmps25
    go_wp2
    go_ret
    exact ⟨ret_bool (by simp), (Ext.refl w).alloc _⟩
end Go.Proofs.Ytmkmgimmlohamaa
