/-
  Plain: Snapshot of the program is that of the reference.
  Conditions: none.
-/
import Derived.Test.YtdlhnpogddpmpaaGreatFailRL
import Derived.Test.YtdlhnpogddpmpaaGreatFailY
import Derived.Test.YtdlhnpogddpmpaaGreatFailOb
namespace Go.Proofs.YtdlhnpogddpmpaaGreat

theorem keysR_zero (l : List Gr) : keysR [0] (l.map fun g => ((⟨g, 0⟩ : Rd), 0)) = [0] := by
  induction l with
  | nil => rfl
  | cons g l ih =>
    unfold keysR at ih ⊢
    rw [List.map_cons, List.foldl_cons]
    exact ih
theorem buildA_one (l : List Gr) (n : Nat) (h : l.length ≤ 4096) : buildA (fun _ => l.map fun g => ((⟨g, 0⟩ : Rd), 0)) n = (⟨n, [l.map mvG]⟩, 0) := by
  have hb : buildR (fun _ => l.map fun g => ((⟨g, 0⟩ : Rd), 0)) n 64 0 [0] 0 [] = some [l.map mvG] := by
    rw [buildR, dif_pos (by decide), if_neg (by simp; omega), keysR_zero, buildR, dif_neg (by decide)]
    congr 1
    rw [List.nil_append]
    congr 1
    unfold movesR
    rw [keysR_zero, List.map_map]
    rfl
  unfold buildA
  rw [hb]
theorem snap_few : ((List.range 6).all fun n => decide ((snapL n).length ≤ 4096)) = true := by decide +kernel
theorem snapA_eq (n : Int) : snapA n = refSA n := by
  unfold snapA refSA
  by_cases hb : n < 1 ∨ 5 < n
  · rw [if_pos hb, if_pos hb]
  · rw [if_neg hb, if_neg hb]
    obtain ⟨m, rfl⟩ : ∃ m : Nat, n = m := ⟨n.toNat, by omega⟩
    rw [Int.toNat_natCast, snap_eq (by omega) (by omega), buildA_one]
    have t := snap_few
    rw [List.all_eq_true] at t
    have t := of_decide_eq_true (t m (List.mem_range.2 (by omega)))
    have h := congrArg List.length (snap_eq (n := m) (by omega) (by omega))
    rw [(sortR_perm _).length_eq, List.length_map] at h
    unfold snapE at h
    rw [List.length_map] at h
    omega
end Go.Proofs.YtdlhnpogddpmpaaGreat
