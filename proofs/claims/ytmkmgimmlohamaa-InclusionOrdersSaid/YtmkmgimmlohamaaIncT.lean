/-
  The program's Includes and Equivalent.
  Conditions: as each theorem states.
-/
import Derived.Test.YtmkmgimmlohamaaIncR
namespace Go.Proofs.Ytmkmgimmlohamaa
open Go.RowKit
attribute [local go_sem] Oper.semAt_some

theorem enters_lack : ∀ args w, (callFunc 34 args).run Try.prog w = .ok (.enter 34 args) w := fun _ _ => by kernel_rfl
theorem enters_diff : ∀ args w, (callFunc 40 args).run Try.prog w = .ok (.enter 40 args) w := fun _ _ => by kernel_rfl
theorem search_lack (A B : Adv) (u v : Value) (w : World) (hA : AdvRep w u A) (hB : AdvRep w v B) (h1 : achk A = 0) (h2 : achk B = 0) :
    Calls Try.prog 33 #[u, v, .func (.func 34) #[] #[]] w (RetSr dI A B w) := search_any dI _ lacking_any enters_lack A B u v w hA hB h1 h2
theorem search_diff (A B : Adv) (u v : Value) (w : World) (hA : AdvRep w u A) (hB : AdvRep w v B) (h1 : achk A = 0) (h2 : achk B = 0) :
    Calls Try.prog 33 #[u, v, .func (.func 40) #[] #[]] w (RetSr dE A B w) := search_any dE _ differ_any enters_diff A B u v w hA hB h1 h2
/-- What Includes and Equivalent return. -/
def RetIn (d : St → Bool) (A B : Adv) (w : World) (en : Ending) (w' : World) : Prop :=
  ∃ x b, en = .returned (.tuple #[x, .bool b, .int .i64 (bothI A B)]) ∧ Ext w w' ∧
    ((bothI A B ≠ 0 ∧ x = .slice none 0 0 ∧ b = false) ∨
      (bothI A B = 0 ∧ b = false ∧ ∃ word, Row Rd.cells 7 w' x word ∧ word ≠ [] ∧ markA (actP d A B) (0, 0) word ∧ ∀ u, markA (actP d A B) (0, 0) u → Wle word u) ∨
      (bothI A B = 0 ∧ b = true ∧ x = .slice none 0 0 ∧ ∀ u, ¬ markA (actP d A B) (0, 0) u))
end Go.Proofs.Ytmkmgimmlohamaa
