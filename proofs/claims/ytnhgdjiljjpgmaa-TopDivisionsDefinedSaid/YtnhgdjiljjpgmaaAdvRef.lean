/-
  Contracts of the reference's checks of adversaries (roundtableref16): move, grows, Check.
  Conditions: as each theorem states.
-/
import Derived.Test.YtnhgdjiljjpgmaaRep
namespace Go.Proofs.Ytnhgdjiljjpgmaa
open Go.RowKit

def movesN (A : Adv) : Nat := (A.st.map List.length).sum
theorem take_sum_succ {l : List (List Mv)} {k : Nat} (h : k < l.length) : ((l.take (k + 1)).map List.length).sum = ((l.take k).map List.length).sum + (l.getD k []).length := by
  rw [List.take_add_one, List.getElem?_eq_getElem h, List.getD_eq_getElem?_getD, List.getElem?_eq_getElem h, List.map_append, List.sum_append]
  simp
theorem take_sum_le {l : List (List Mv)} {B : Nat} (hB : ∀ i, i < l.length → (l.getD i []).length ≤ B) : ∀ k, k ≤ l.length → ((l.take k).map List.length).sum ≤ k * B := by
  intro k
  induction k with
  | zero => intro _; simp
  | succ k ih =>
    intro hk
    rw [take_sum_succ (by omega), Nat.succ_mul]
    have := ih (by omega)
    have := hB k (by omega)
    omega

def afew (A : Adv) : Bool := decide (A.st.length ≤ 8) && decide (movesN A ≤ 40)
end Go.Proofs.Ytnhgdjiljjpgmaa

namespace Go.Proofs.Ytnhgdjiljjpgmaa
open Go.RowKit

/-- The error of move i of a state. -/
def mvErrAt (n : Int) (L : Nat) (ms : List Mv) (i : Nat) : Int :=
  if rchk (ms.getD i default).r = 0 then
    if (ms.getD i default).r.g.n = n then
      if 0 < i ∧ 0 ≤ rcmp (ms.getD (i - 1) default).r (ms.getD i default).r then 14
      else if (ms.getD i default).to < 0 ∨ (L : Int) ≤ (ms.getD i default).to then 2 else 0
    else 22
  else rchk (ms.getD i default).r

end Go.Proofs.Ytnhgdjiljjpgmaa
