/-
  The reference's layer 17: graphs.
  Conditions: at most five processes; sets of them.
-/
import Derived.Test.YtdlhnpogddpmpaaGreatFailS
import Derived.Test.YtdlhnpogddpmpaaGreatCmp
import Derived.Test.YtdlhnpogddpmpaaGreatHeldA
import Derived.Test.YtdlhnpogddpmpaaGreatFailG
import Derived.Test.YtdlhnpogddpmpaaGreatFailM
import Derived.Deep.CutRange
namespace Go.Proofs.YtdlhnpogddpmpaaGreat
open Go.RowKit
attribute [local go_sem] Oper.semAt_some

theorem has_table : ((List.range 32).all fun s => (List.range 5).all fun p => decide (has ((s : Nat) : Int) p = bit s p)) = true := by decide +kernel
theorem has_bit {s p : Nat} (hs : s < 32) (hp : p < 5) : has (s : Int) p = bit s p := by
  have h := has_table
  rw [List.all_eq_true] at h
  have h := h s (List.mem_range.2 hs)
  rw [List.all_eq_true] at h
  exact of_decide_eq_true (h p (List.mem_range.2 hp))
theorem rhasb_any {s p : Nat} (hs : s < 32) (hp : p < 5) (w : World) : Calls Tryz.prog 97 #[.int .i64 s, .int .i64 p] w fun e w' => e = .returned (.bool (bit s p)) ∧ w' = w := by
  have h := rhas_any (s : Int) (p : Int) w (by omega) (by omega) (by omega) (by omega)
  rwa [Int.toNat_natCast, has_bit hs hp] at h
theorem rfulln_any {n : Nat} (hn : n ≤ 5) (w : World) : Calls Tryz.prog 110 #[.int .i64 n] w fun e w' => e = .returned (.int .i64 (fullN n : Nat)) ∧ w' = w := by
  have h := rfull_any (n : Int) w (by omega) (by omega)
  have e : (2 : Int) ^ (n : Int).toNat - 1 = ((fullN n : Nat) : Int) := by
    rw [Int.toNat_natCast]
    obtain rfl | rfl | rfl | rfl | rfl | rfl : n = 0 ∨ n = 1 ∨ n = 2 ∨ n = 3 ∨ n = 4 ∨ n = 5 := by omega
    all_goals decide +kernel
  rwa [e] at h
/-- A rule, as a value. -/
def Rul.v (r : Rul) : Value := .agg #[.int .i64 r.op, .int .i64 r.n, .int .i64 r.num]
/-- Is the process q no hindrance to the set? -/
def rowQ (r : Rul) (b o p set q : Nat) : Bool := q == p || !badQ r b o p q (bit set q)
theorem rowB_eq (r : Rul) (b o p set : Nat) : rowB r b o p set = (bit set p && (List.range r.n).all (rowQ r b o p set)) := rfl
set_option maxRecDepth 16000 in
set_option maxHeartbeats 4000000 in
theorem rrow_any {op n num b o p set : Nat} (hop : 1 ≤ op ∧ op ≤ 4) (hn : n ≤ 5) (hb : b < 32) (ho : o < 32) (hp : p < 5) (hs : set < 32) (w : World) :
    Calls Tryz.prog 138 #[.agg #[.int .i64 op, .int .i64 n, .int .i64 num], .int .i64 b, .int .i64 o, .int .i64 p, .int .i64 set] w fun e w' => e = .returned (.bool (rowB ⟨op, n, num⟩ b o p set)) ∧ Ext w w' := by
  have HB := hide (fun q (hq : q < 5) W => rhasb_any hb hq W)
  have HO := hide (fun q (hq : q < 5) W => rhasb_any ho hq W)
  have HS := hide (fun q (hq : q < 5) W => rhasb_any hs hq W)
  have HV := hide (rowB_eq ⟨op, n, num⟩ b o p set)
  obtain ⟨w1, hw1⟩ : ∃ w1, w.alloc (.cells #[.int .i64 op, .int .i64 n, .int .i64 num] 101) = w1 := ⟨_, rfl⟩
  have HE : Hid (Ext w w1) := by show Ext _ _; rw [← hw1]; exact (Ext.refl w).alloc _
  have HR : Hid (w1.heap[w.heap.size]? = some (.cells #[.int .i64 op, .int .i64 n, .int .i64 num] 101 (0, 0))) := by show _ = _; rw [← hw1]; exact heap_alloc_new w _
  have HW := hide hw1
  clear hw1 hb ho hs
  generalize rowB ⟨op, n, num⟩ b o p set = res at HV ⊢
  go_enter Tryz.func138, Tryz.ntmps138
  go_wp2_with fail
  rw [HW.out]
  refine (HS.out p hp _).mono ?_
  rintro e w2 ⟨rfl, hw2⟩
  cases hsp : bit set p with
  | false =>
    have HRES : Hid (res = false) := by show _ = _; rw [HV.out, hsp]; rfl
    clear hsp
    go_wp2_with fail
    go_ret
    exact ⟨by rw [HRES.out]; rfl, hw2 ▸ HE.out⟩
  | true =>
    have HRES : Hid (res = (List.range n).all (rowQ ⟨op, n, num⟩ b o p set)) := by show _ = _; rw [HV.out, hsp]; rfl
    clear hsp HV
    rw [hw2]
    clear hw2
    have r0 : w1.cell? ⟨w.heap.size, 0, none⟩ = some (.int .i64 op) := by rw [cell_of_row _ _ _ _ _ _ HR.out]; rfl
    have r1 : w1.cell? ⟨w.heap.size, 1, none⟩ = some (.int .i64 n) := by rw [cell_of_row _ _ _ _ _ _ HR.out]; rfl
    have rz := lt_of_heap HR.out
    go_wp2_with fail
    go_loopw [11] (fun v wr => ∃ q : Nat, q ≤ n ∧ v = .int .i64 q ∧ wr = w1 ∧ Hid (∀ x, x < q → rowQ ⟨op, n, num⟩ b o p set x = true)) (fun v _ => n - (intOf v).toNat)
    case atStart => exact ⟨0, Nat.zero_le _, rfl, rfl, fun x hx => absurd hx (Nat.not_lt_zero x)⟩
    case round =>
      obtain ⟨q, hq, rfl, rfl, HL⟩ := hrel
      by_cases hlt : q < n
      · by_cases hqp : q = p
        · have hd : ((q : Int) == (p : Int)) = true := by rw [hqp]; simp
          have hd2 : (q == p) = true := by rw [hqp]; simp
          have HQ : Hid (rowQ ⟨op, n, num⟩ b o p set q = true) := by show _ = _; unfold rowQ; rw [hd2]; rfl
          clear hqp
          go_wp2_with fail
          go_round
          case rel => exact ⟨q + 1, by omega, by go_num, trivial, fun x hx => by
            rcases Nat.lt_succ_iff_lt_or_eq.1 hx with h | rfl
            · exact HL.out x h
            · exact HQ.out⟩
          case measure => simp [intOf]; omega
        · have hd : ((q : Int) == (p : Int)) = false := by rw [beq_eq_false_iff_ne]; omega
          have hd2 : (q == p) = false := by rw [beq_eq_false_iff_ne]; exact hqp
          obtain rfl | rfl | rfl | rfl : op = 1 ∨ op = 2 ∨ op = 3 ∨ op = 4 := by omega
          · skip
            cases hop : bit o p with
            | true =>
              cases hsq : bit set q with
              | true =>
                have HQ : Hid (res = false) := by
                  show _ = _
                  rw [HRES.out, List.all_eq_false]
                  exact ⟨q, List.mem_range.2 hlt, by simp [rowQ, badQ, hqp, hop, hsq]⟩
                go_wp2_with (go_at_call 97; first | (with_reducible refine (HS.out _ (by omega) _).mono ?_; rintro e w' ⟨rfl, rfl⟩) | (with_reducible refine (HO.out _ (by omega) _).mono ?_; rintro e w' ⟨rfl, rfl⟩) | (with_reducible refine (HB.out _ (by omega) _).mono ?_; rintro e w' ⟨rfl, rfl⟩))
                go_ret
                exact ⟨by rw [HQ.out]; rfl, HE.out⟩
              | false =>
                have HQ : Hid (rowQ ⟨1, n, num⟩ b o p set q = true) := by (show _ = _; simp [rowQ, badQ, hop, hsq])
                have HLQ : Hid (∀ x, x < q + 1 → rowQ ⟨1, n, num⟩ b o p set x = true) := fun x hx => by
                  rcases Nat.lt_succ_iff_lt_or_eq.1 hx with h | rfl
                  · exact HL.out x h
                  · exact HQ.out
                go_wp2_with (go_at_call 97; first | (with_reducible refine (HS.out _ (by omega) _).mono ?_; rintro e w' ⟨rfl, rfl⟩) | (with_reducible refine (HO.out _ (by omega) _).mono ?_; rintro e w' ⟨rfl, rfl⟩) | (with_reducible refine (HB.out _ (by omega) _).mono ?_; rintro e w' ⟨rfl, rfl⟩))
                go_roundw
                case rel => first
                  | exact ⟨q + 1, by omega, by go_num, trivial, HLQ⟩
                  | ((repeat apply Exists.intro); exact ⟨⟨q + 1, by omega, by go_num, by first | rfl | trivial, HLQ⟩, rfl⟩)
                case measure => simp [intOf]; omega
            | false =>
              cases hbq : bit b q with
              | true =>
                cases hsq : bit set q with
                | true =>
                  have HQ : Hid (res = false) := by
                    show _ = _
                    rw [HRES.out, List.all_eq_false]
                    exact ⟨q, List.mem_range.2 hlt, by simp [rowQ, badQ, hqp, hop, hbq, hsq]⟩
                  go_wp2_with (go_at_call 97; first | (with_reducible refine (HS.out _ (by omega) _).mono ?_; rintro e w' ⟨rfl, rfl⟩) | (with_reducible refine (HO.out _ (by omega) _).mono ?_; rintro e w' ⟨rfl, rfl⟩) | (with_reducible refine (HB.out _ (by omega) _).mono ?_; rintro e w' ⟨rfl, rfl⟩))
                  go_ret
                  exact ⟨by rw [HQ.out]; rfl, HE.out⟩
                | false =>
                  cases hoq : bit o q with
                  | true =>
                    have HQ : Hid (rowQ ⟨1, n, num⟩ b o p set q = true) := by (show _ = _; simp [rowQ, badQ, hop, hbq, hsq, hoq])
                    have HLQ : Hid (∀ x, x < q + 1 → rowQ ⟨1, n, num⟩ b o p set x = true) := fun x hx => by
                      rcases Nat.lt_succ_iff_lt_or_eq.1 hx with h | rfl
                      · exact HL.out x h
                      · exact HQ.out
                    go_wp2_with (go_at_call 97; first | (with_reducible refine (HS.out _ (by omega) _).mono ?_; rintro e w' ⟨rfl, rfl⟩) | (with_reducible refine (HO.out _ (by omega) _).mono ?_; rintro e w' ⟨rfl, rfl⟩) | (with_reducible refine (HB.out _ (by omega) _).mono ?_; rintro e w' ⟨rfl, rfl⟩))
                    go_roundw
                    case rel => first
                      | exact ⟨q + 1, by omega, by go_num, trivial, HLQ⟩
                      | ((repeat apply Exists.intro); exact ⟨⟨q + 1, by omega, by go_num, by first | rfl | trivial, HLQ⟩, rfl⟩)
                    case measure => simp [intOf]; omega
                  | false =>
                    have HQ : Hid (res = false) := by
                      show _ = _
                      rw [HRES.out, List.all_eq_false]
                      exact ⟨q, List.mem_range.2 hlt, by simp [rowQ, badQ, hqp, hop, hbq, hsq, hoq]⟩
                    go_wp2_with (go_at_call 97; first | (with_reducible refine (HS.out _ (by omega) _).mono ?_; rintro e w' ⟨rfl, rfl⟩) | (with_reducible refine (HO.out _ (by omega) _).mono ?_; rintro e w' ⟨rfl, rfl⟩) | (with_reducible refine (HB.out _ (by omega) _).mono ?_; rintro e w' ⟨rfl, rfl⟩))
                    go_ret
                    exact ⟨by rw [HQ.out]; rfl, HE.out⟩
              | false =>
                cases hoq : bit o q with
                | true =>
                  have HQ : Hid (rowQ ⟨1, n, num⟩ b o p set q = true) := by (show _ = _; simp [rowQ, badQ, hop, hbq, hoq])
                  have HLQ : Hid (∀ x, x < q + 1 → rowQ ⟨1, n, num⟩ b o p set x = true) := fun x hx => by
                    rcases Nat.lt_succ_iff_lt_or_eq.1 hx with h | rfl
                    · exact HL.out x h
                    · exact HQ.out
                  go_wp2_with (go_at_call 97; first | (with_reducible refine (HS.out _ (by omega) _).mono ?_; rintro e w' ⟨rfl, rfl⟩) | (with_reducible refine (HO.out _ (by omega) _).mono ?_; rintro e w' ⟨rfl, rfl⟩) | (with_reducible refine (HB.out _ (by omega) _).mono ?_; rintro e w' ⟨rfl, rfl⟩))
                  go_roundw
                  case rel => first
                    | exact ⟨q + 1, by omega, by go_num, trivial, HLQ⟩
                    | ((repeat apply Exists.intro); exact ⟨⟨q + 1, by omega, by go_num, by first | rfl | trivial, HLQ⟩, rfl⟩)
                  case measure => simp [intOf]; omega
                | false =>
                  cases hsq : bit set q with
                  | true =>
                    have HQ : Hid (rowQ ⟨1, n, num⟩ b o p set q = true) := by (show _ = _; simp [rowQ, badQ, hop, hbq, hoq, hsq])
                    have HLQ : Hid (∀ x, x < q + 1 → rowQ ⟨1, n, num⟩ b o p set x = true) := fun x hx => by
                      rcases Nat.lt_succ_iff_lt_or_eq.1 hx with h | rfl
                      · exact HL.out x h
                      · exact HQ.out
                    go_wp2_with (go_at_call 97; first | (with_reducible refine (HS.out _ (by omega) _).mono ?_; rintro e w' ⟨rfl, rfl⟩) | (with_reducible refine (HO.out _ (by omega) _).mono ?_; rintro e w' ⟨rfl, rfl⟩) | (with_reducible refine (HB.out _ (by omega) _).mono ?_; rintro e w' ⟨rfl, rfl⟩))
                    go_roundw
                    case rel => first
                      | exact ⟨q + 1, by omega, by go_num, trivial, HLQ⟩
                      | ((repeat apply Exists.intro); exact ⟨⟨q + 1, by omega, by go_num, by first | rfl | trivial, HLQ⟩, rfl⟩)
                    case measure => simp [intOf]; omega
                  | false =>
                    have HQ : Hid (res = false) := by
                      show _ = _
                      rw [HRES.out, List.all_eq_false]
                      exact ⟨q, List.mem_range.2 hlt, by simp [rowQ, badQ, hqp, hop, hbq, hoq, hsq]⟩
                    go_wp2_with (go_at_call 97; first | (with_reducible refine (HS.out _ (by omega) _).mono ?_; rintro e w' ⟨rfl, rfl⟩) | (with_reducible refine (HO.out _ (by omega) _).mono ?_; rintro e w' ⟨rfl, rfl⟩) | (with_reducible refine (HB.out _ (by omega) _).mono ?_; rintro e w' ⟨rfl, rfl⟩))
                    go_ret
                    exact ⟨by rw [HQ.out]; rfl, HE.out⟩
          · skip
            cases hsq : bit set q with
            | true =>
              have HQ : Hid (rowQ ⟨2, n, num⟩ b o p set q = true) := by (show _ = _; simp [rowQ, badQ, hsq])
              have HLQ : Hid (∀ x, x < q + 1 → rowQ ⟨2, n, num⟩ b o p set x = true) := fun x hx => by
                rcases Nat.lt_succ_iff_lt_or_eq.1 hx with h | rfl
                · exact HL.out x h
                · exact HQ.out
              go_wp2_with (go_at_call 97; first | (with_reducible refine (HS.out _ (by omega) _).mono ?_; rintro e w' ⟨rfl, rfl⟩) | (with_reducible refine (HO.out _ (by omega) _).mono ?_; rintro e w' ⟨rfl, rfl⟩) | (with_reducible refine (HB.out _ (by omega) _).mono ?_; rintro e w' ⟨rfl, rfl⟩))
              go_roundw
              case rel => first
                | exact ⟨q + 1, by omega, by go_num, trivial, HLQ⟩
                | ((repeat apply Exists.intro); exact ⟨⟨q + 1, by omega, by go_num, by first | rfl | trivial, HLQ⟩, rfl⟩)
              case measure => simp [intOf]; omega
            | false =>
              cases hoq : bit o q with
              | true =>
                have HQ : Hid (rowQ ⟨2, n, num⟩ b o p set q = true) := by (show _ = _; simp [rowQ, badQ, hsq, hoq])
                have HLQ : Hid (∀ x, x < q + 1 → rowQ ⟨2, n, num⟩ b o p set x = true) := fun x hx => by
                  rcases Nat.lt_succ_iff_lt_or_eq.1 hx with h | rfl
                  · exact HL.out x h
                  · exact HQ.out
                go_wp2_with (go_at_call 97; first | (with_reducible refine (HS.out _ (by omega) _).mono ?_; rintro e w' ⟨rfl, rfl⟩) | (with_reducible refine (HO.out _ (by omega) _).mono ?_; rintro e w' ⟨rfl, rfl⟩) | (with_reducible refine (HB.out _ (by omega) _).mono ?_; rintro e w' ⟨rfl, rfl⟩))
                go_roundw
                case rel => first
                  | exact ⟨q + 1, by omega, by go_num, trivial, HLQ⟩
                  | ((repeat apply Exists.intro); exact ⟨⟨q + 1, by omega, by go_num, by first | rfl | trivial, HLQ⟩, rfl⟩)
                case measure => simp [intOf]; omega
              | false =>
                have HQ : Hid (res = false) := by
                  show _ = _
                  rw [HRES.out, List.all_eq_false]
                  exact ⟨q, List.mem_range.2 hlt, by simp [rowQ, badQ, hqp, hsq, hoq]⟩
                go_wp2_with (go_at_call 97; first | (with_reducible refine (HS.out _ (by omega) _).mono ?_; rintro e w' ⟨rfl, rfl⟩) | (with_reducible refine (HO.out _ (by omega) _).mono ?_; rintro e w' ⟨rfl, rfl⟩) | (with_reducible refine (HB.out _ (by omega) _).mono ?_; rintro e w' ⟨rfl, rfl⟩))
                go_ret
                exact ⟨by rw [HQ.out]; rfl, HE.out⟩
          · skip
            cases hsq : bit set q with
            | true =>
              have HQ : Hid (rowQ ⟨3, n, num⟩ b o p set q = true) := by (show _ = _; simp [rowQ, badQ, hsq])
              have HLQ : Hid (∀ x, x < q + 1 → rowQ ⟨3, n, num⟩ b o p set x = true) := fun x hx => by
                rcases Nat.lt_succ_iff_lt_or_eq.1 hx with h | rfl
                · exact HL.out x h
                · exact HQ.out
              go_wp2_with (go_at_call 97; first | (with_reducible refine (HS.out _ (by omega) _).mono ?_; rintro e w' ⟨rfl, rfl⟩) | (with_reducible refine (HO.out _ (by omega) _).mono ?_; rintro e w' ⟨rfl, rfl⟩) | (with_reducible refine (HB.out _ (by omega) _).mono ?_; rintro e w' ⟨rfl, rfl⟩))
              go_roundw
              case rel => first
                | exact ⟨q + 1, by omega, by go_num, trivial, HLQ⟩
                | ((repeat apply Exists.intro); exact ⟨⟨q + 1, by omega, by go_num, by first | rfl | trivial, HLQ⟩, rfl⟩)
              case measure => simp [intOf]; omega
            | false =>
              cases hop : bit o p with
              | true =>
                have HQ : Hid (rowQ ⟨3, n, num⟩ b o p set q = true) := by (show _ = _; simp [rowQ, badQ, hsq, hop])
                have HLQ : Hid (∀ x, x < q + 1 → rowQ ⟨3, n, num⟩ b o p set x = true) := fun x hx => by
                  rcases Nat.lt_succ_iff_lt_or_eq.1 hx with h | rfl
                  · exact HL.out x h
                  · exact HQ.out
                go_wp2_with (go_at_call 97; first | (with_reducible refine (HS.out _ (by omega) _).mono ?_; rintro e w' ⟨rfl, rfl⟩) | (with_reducible refine (HO.out _ (by omega) _).mono ?_; rintro e w' ⟨rfl, rfl⟩) | (with_reducible refine (HB.out _ (by omega) _).mono ?_; rintro e w' ⟨rfl, rfl⟩))
                go_roundw
                case rel => first
                  | exact ⟨q + 1, by omega, by go_num, trivial, HLQ⟩
                  | ((repeat apply Exists.intro); exact ⟨⟨q + 1, by omega, by go_num, by first | rfl | trivial, HLQ⟩, rfl⟩)
                case measure => simp [intOf]; omega
              | false =>
                have HQ : Hid (res = false) := by
                  show _ = _
                  rw [HRES.out, List.all_eq_false]
                  exact ⟨q, List.mem_range.2 hlt, by simp [rowQ, badQ, hqp, hsq, hop]⟩
                go_wp2_with (go_at_call 97; first | (with_reducible refine (HS.out _ (by omega) _).mono ?_; rintro e w' ⟨rfl, rfl⟩) | (with_reducible refine (HO.out _ (by omega) _).mono ?_; rintro e w' ⟨rfl, rfl⟩) | (with_reducible refine (HB.out _ (by omega) _).mono ?_; rintro e w' ⟨rfl, rfl⟩))
                go_ret
                exact ⟨by rw [HQ.out]; rfl, HE.out⟩
          · skip
            cases hsq : bit set q with
            | true =>
              have HQ : Hid (rowQ ⟨4, n, num⟩ b o p set q = true) := by (show _ = _; simp [rowQ, badQ, hsq])
              have HLQ : Hid (∀ x, x < q + 1 → rowQ ⟨4, n, num⟩ b o p set x = true) := fun x hx => by
                rcases Nat.lt_succ_iff_lt_or_eq.1 hx with h | rfl
                · exact HL.out x h
                · exact HQ.out
              go_wp2_with (go_at_call 97; first | (with_reducible refine (HS.out _ (by omega) _).mono ?_; rintro e w' ⟨rfl, rfl⟩) | (with_reducible refine (HO.out _ (by omega) _).mono ?_; rintro e w' ⟨rfl, rfl⟩) | (with_reducible refine (HB.out _ (by omega) _).mono ?_; rintro e w' ⟨rfl, rfl⟩))
              go_roundw
              case rel => first
                | exact ⟨q + 1, by omega, by go_num, trivial, HLQ⟩
                | ((repeat apply Exists.intro); exact ⟨⟨q + 1, by omega, by go_num, by first | rfl | trivial, HLQ⟩, rfl⟩)
              case measure => simp [intOf]; omega
            | false =>
              cases hop : bit o p with
              | true =>
                have HQ : Hid (rowQ ⟨4, n, num⟩ b o p set q = true) := by (show _ = _; simp [rowQ, badQ, hsq, hop])
                have HLQ : Hid (∀ x, x < q + 1 → rowQ ⟨4, n, num⟩ b o p set x = true) := fun x hx => by
                  rcases Nat.lt_succ_iff_lt_or_eq.1 hx with h | rfl
                  · exact HL.out x h
                  · exact HQ.out
                go_wp2_with (go_at_call 97; first | (with_reducible refine (HS.out _ (by omega) _).mono ?_; rintro e w' ⟨rfl, rfl⟩) | (with_reducible refine (HO.out _ (by omega) _).mono ?_; rintro e w' ⟨rfl, rfl⟩) | (with_reducible refine (HB.out _ (by omega) _).mono ?_; rintro e w' ⟨rfl, rfl⟩))
                go_roundw
                case rel => first
                  | exact ⟨q + 1, by omega, by go_num, trivial, HLQ⟩
                  | ((repeat apply Exists.intro); exact ⟨⟨q + 1, by omega, by go_num, by first | rfl | trivial, HLQ⟩, rfl⟩)
                case measure => simp [intOf]; omega
              | false =>
                cases hoq : bit o q with
                | true =>
                  have HQ : Hid (rowQ ⟨4, n, num⟩ b o p set q = true) := by (show _ = _; simp [rowQ, badQ, hsq, hop, hoq])
                  have HLQ : Hid (∀ x, x < q + 1 → rowQ ⟨4, n, num⟩ b o p set x = true) := fun x hx => by
                    rcases Nat.lt_succ_iff_lt_or_eq.1 hx with h | rfl
                    · exact HL.out x h
                    · exact HQ.out
                  go_wp2_with (go_at_call 97; first | (with_reducible refine (HS.out _ (by omega) _).mono ?_; rintro e w' ⟨rfl, rfl⟩) | (with_reducible refine (HO.out _ (by omega) _).mono ?_; rintro e w' ⟨rfl, rfl⟩) | (with_reducible refine (HB.out _ (by omega) _).mono ?_; rintro e w' ⟨rfl, rfl⟩))
                  go_roundw
                  case rel => first
                    | exact ⟨q + 1, by omega, by go_num, trivial, HLQ⟩
                    | ((repeat apply Exists.intro); exact ⟨⟨q + 1, by omega, by go_num, by first | rfl | trivial, HLQ⟩, rfl⟩)
                  case measure => simp [intOf]; omega
                | false =>
                  have HQ : Hid (res = false) := by
                    show _ = _
                    rw [HRES.out, List.all_eq_false]
                    exact ⟨q, List.mem_range.2 hlt, by simp [rowQ, badQ, hqp, hsq, hop, hoq]⟩
                  go_wp2_with (go_at_call 97; first | (with_reducible refine (HS.out _ (by omega) _).mono ?_; rintro e w' ⟨rfl, rfl⟩) | (with_reducible refine (HO.out _ (by omega) _).mono ?_; rintro e w' ⟨rfl, rfl⟩) | (with_reducible refine (HB.out _ (by omega) _).mono ?_; rintro e w' ⟨rfl, rfl⟩))
                  go_ret
                  exact ⟨by rw [HQ.out]; rfl, HE.out⟩
      · obtain rfl : q = n := by omega
        have HQ : Hid (res = true) := by
          show _ = _
          rw [HRES.out, List.all_eq_true]
          exact fun x hx => HL.out x (List.mem_range.1 hx)
        go_wp2_with fail
        go_ret
        exact ⟨by rw [HQ.out]; rfl, HE.out⟩
end Go.Proofs.YtdlhnpogddpmpaaGreat

namespace Go.Proofs.YtdlhnpogddpmpaaGreat
open Go.RowKit
attribute [local go_sem] Oper.semAt_some

/-- Does the row of y show it? -/
def shwQ (r : Rul) (b : Nat) (g : Gr) (x y : Nat) : Bool := y != x &&
    ((r.op == 2 && !bit (g.h y).toNat x || r.op == 3 && !bit (g.h x).toNat y) || (r.op == 4 && (!bit (g.h y).toNat x || !bit (g.h x).toNat y) && !bit b y))
theorem showsB_eq (r : Rul) (b : Nat) (g : Gr) (x : Nat) : showsB r b g x = ((List.range r.n).any (shwQ r b g x) || r.op == 1) := rfl
theorem cells_rule {W : World} {k : Nat} {op n num : Nat} (h : W.heap[k]? = some (.cells #[.int .i64 op, .int .i64 n, .int .i64 num] 101 (0, 0))) : W.cell? ⟨k, 0, none⟩ = some (.int .i64 op) ∧ W.cell? ⟨k, 1, none⟩ = some (.int .i64 n) ∧ k < W.heap.size :=
  ⟨cells_at h 0, cells_at h 1, lt_of_heap h⟩
set_option maxRecDepth 16000 in
set_option maxHeartbeats 4000000 in
theorem rshows_any {op n num b x : Nat} {g : Gr} (hop : 1 ≤ op ∧ op ≤ 4) (hn : n ≤ 5) (hb : b < 32) (hx : x < n) (hg : GS n g) (w : World) :
    Calls Tryz.prog 141 #[.agg #[.int .i64 op, .int .i64 n, .int .i64 num], .int .i64 b, g.v, .int .i64 x] w fun e w' => e = .returned (.bool (showsB ⟨op, n, num⟩ b g x)) ∧ Ext w w' := by
  have HV := hide (showsB_eq ⟨op, n, num⟩ b g x)
  obtain ⟨w1, hw1⟩ : ∃ w1, (w.alloc (.cells #[.int .i64 op, .int .i64 n, .int .i64 num] 101)).alloc (.cells #[.int .i64 g.n, .int .i64 g.h0, .int .i64 g.h1, .int .i64 g.h2, .int .i64 g.h3, .int .i64 g.h4] 37) = w1 := ⟨_, rfl⟩
  have HE0 : Hid (Ext w w1) := by show Ext _ _; rw [← hw1]; exact ((Ext.refl w).alloc _).alloc _
  have HR : Hid (w1.heap[w.heap.size]? = some (.cells #[.int .i64 op, .int .i64 n, .int .i64 num] 101 (0, 0))) := by show _ = _; rw [← hw1]; exact (Below.heap_alloc _ _ _ (by simp)).trans (heap_alloc_new w _)
  have HG : Hid (GrBox w1 (w.heap.size + 1) g) := by
    show _ = _
    rw [← hw1]
    have := heap_alloc_new (w.alloc (.cells #[.int .i64 op, .int .i64 n, .int .i64 num] 101)) (.cells #[.int .i64 g.n, .int .i64 g.h0, .int .i64 g.h1, .int .i64 g.h2, .int .i64 g.h3, .int .i64 g.h4] 37)
    rwa [World.size_alloc] at this
  have HW := hide hw1
  have HGH := hide hg.2
  clear hw1 hg
  generalize showsB ⟨op, n, num⟩ b g x = res at HV ⊢
  go_enter Tryz.func141, Tryz.ntmps141
  go_wp2_with fail
  rw [HW.out]
  go_loopw [9] (fun v wr => ∃ y : Nat, y ≤ n ∧ v = .int .i64 y ∧ Hid (Ext w1 wr) ∧ Hid (∀ z, z < y → shwQ ⟨op, n, num⟩ b g x z = false)) (fun v _ => n - (intOf v).toNat)
  case atStart => exact ⟨0, Nat.zero_le _, rfl, Ext.refl _, fun z hz => absurd hz (Nat.not_lt_zero z)⟩
  case round =>
    obtain ⟨y, hy, rfl, HE, HL⟩ := hrel
    obtain ⟨r0, r1, rz⟩ := cells_rule ((HE.out.b.block _ (lt_of_heap HR.out)).trans HR.out)
    by_cases hlt : y < n
    · by_cases hqx : y = x
      · have hd : ((y : Int) == (x : Int)) = true := by rw [hqx]; simp
        have hd2 : (y == x) = true := by rw [hqx]; simp
        have HLQ : Hid (∀ z, z < y + 1 → shwQ ⟨op, n, num⟩ b g x z = false) := fun z hz => by
          rcases Nat.lt_succ_iff_lt_or_eq.1 hz with h | rfl
          · exact HL.out z h
          · unfold shwQ; rw [bne, hd2]; rfl
        clear hqx
        go_wp2_with fail
        go_roundw
        case rel => first
          | exact ⟨y + 1, by omega, by go_num, HE, HLQ⟩
          | ((repeat apply Exists.intro); exact ⟨⟨y + 1, by omega, by go_num, HE, HLQ⟩, rfl⟩)
        case measure => simp [intOf]; omega
      · have hd : ((y : Int) == (x : Int)) = false := by rw [beq_eq_false_iff_ne]; omega
        have hd2 : (y == x) = false := by rw [beq_eq_false_iff_ne]; exact hqx
        obtain ⟨sy, hsy, hsy32⟩ := HGH.out y (by omega)
        obtain ⟨sx, hsx, hsx32⟩ := HGH.out x (by omega)
        have hty : (g.h y).toNat = sy := by rw [hsy]; rfl
        have htx : (g.h x).toNat = sx := by rw [hsx]; rfl
        have hGB : GrBox wr (w.heap.size + 1) g := (HE.out.b.block _ (lt_of_heap HG.out)).trans HG.out
        obtain ⟨y0, -⟩ := hGB.row (p := y) (by omega)
        obtain ⟨x0, -⟩ := hGB.row (p := x) (by omega)
        have gz := lt_of_heap hGB
        rw [hsy] at y0
        rw [hsx] at x0
        have hy5 : (y : Int) < 5 := by omega
        have hx5 : (x : Int) < 5 := by omega
        have HYX := hide (fun W => rhasb_any (p := x) hsy32 (by omega) W)
        have HXY := hide (fun W => rhasb_any (p := y) hsx32 (by omega) W)
        have HBY := hide (fun W => rhasb_any (p := y) hb (by omega) W)
        clear hsy hsx hGB
        obtain rfl | rfl | rfl | rfl : op = 1 ∨ op = 2 ∨ op = 3 ∨ op = 4 := by omega
        · skip
          have HQ : Hid (shwQ ⟨1, n, num⟩ b g x y = false) := by (show _ = _; simp [shwQ, hty, htx])
          have HLQ : Hid (∀ z, z < y + 1 → shwQ ⟨1, n, num⟩ b g x z = false) := fun z hz => by
            rcases Nat.lt_succ_iff_lt_or_eq.1 hz with h | rfl
            · exact HL.out z h
            · exact HQ.out
          clear hty htx
          go_upto_region 5 with fail
          refine wp_region_ext (by kernel_rfl) (by kernel_rfl) ?_
          repeat (go_big_quiet_step ((go_at_call 97; first | with_reducible exact Calls.ext_same (HYX.out _) | with_reducible exact Calls.ext_same (HXY.out _))))
          refine wpQuiet_nil ?_
          rintro w9 ⟨⟨_, hE9⟩, rfl⟩
          have HE9 := hide (HE.out.trans hE9)
          clear hE9 r0 r1 rz y0 x0 gz
          obtain ⟨r0, r1, rz⟩ := cells_rule ((HE9.out.b.block _ (lt_of_heap HR.out)).trans HR.out)
          go_wp2_with (go_at_call 97; refine (HBY.out _).mono ?_; rintro e w' ⟨rfl, rfl⟩)
          go_roundw
          case rel => first
            | exact ⟨y + 1, by omega, by go_num, HE9, HLQ⟩
            | ((repeat apply Exists.intro); exact ⟨⟨y + 1, by omega, by go_num, HE9, HLQ⟩, rfl⟩)
          case measure => simp [intOf]; omega
        · skip
          cases hyx : bit sy x with
          | true =>
            rw [hyx] at HYX
            have HQ : Hid (shwQ ⟨2, n, num⟩ b g x y = false) := by (show _ = _; simp [shwQ, hty, htx, hyx])
            have HLQ : Hid (∀ z, z < y + 1 → shwQ ⟨2, n, num⟩ b g x z = false) := fun z hz => by
              rcases Nat.lt_succ_iff_lt_or_eq.1 hz with h | rfl
              · exact HL.out z h
              · exact HQ.out
            clear hty htx
            go_upto_region 5 with fail
            refine wp_region_ext (by kernel_rfl) (by kernel_rfl) ?_
            repeat (go_big_quiet_step ((go_at_call 97; first | with_reducible exact Calls.ext_same (HYX.out _) | with_reducible exact Calls.ext_same (HXY.out _))))
            refine wpQuiet_nil ?_
            rintro w9 ⟨⟨_, hE9⟩, rfl⟩
            have HE9 := hide (HE.out.trans hE9)
            clear hE9 r0 r1 rz y0 x0 gz
            obtain ⟨r0, r1, rz⟩ := cells_rule ((HE9.out.b.block _ (lt_of_heap HR.out)).trans HR.out)
            go_wp2_with (go_at_call 97; refine (HBY.out _).mono ?_; rintro e w' ⟨rfl, rfl⟩)
            go_roundw
            case rel => first
              | exact ⟨y + 1, by omega, by go_num, HE9, HLQ⟩
              | ((repeat apply Exists.intro); exact ⟨⟨y + 1, by omega, by go_num, HE9, HLQ⟩, rfl⟩)
            case measure => simp [intOf]; omega
          | false =>
            rw [hyx] at HYX
            have HQ : Hid (res = true) := by
              show _ = _
              rw [HV.out, Bool.or_eq_true]
              exact .inl (List.any_eq_true.2 ⟨y, List.mem_range.2 hlt, by simp [shwQ, hty, htx, hqx, hyx]⟩)
            clear hty htx
            go_upto_region 5 with fail
            refine wp_region_ext (by kernel_rfl) (by kernel_rfl) ?_
            repeat (go_big_quiet_step ((go_at_call 97; first | with_reducible exact Calls.ext_same (HYX.out _) | with_reducible exact Calls.ext_same (HXY.out _))))
            refine wpQuiet_nil ?_
            rintro w9 ⟨⟨_, hE9⟩, rfl⟩
            have HE9 := hide (HE.out.trans hE9)
            clear hE9 r0 r1 rz y0 x0 gz
            obtain ⟨r0, r1, rz⟩ := cells_rule ((HE9.out.b.block _ (lt_of_heap HR.out)).trans HR.out)
            go_wp2_with (go_at_call 97; refine (HBY.out _).mono ?_; rintro e w' ⟨rfl, rfl⟩)
            go_ret
            exact ⟨by rw [HQ.out]; rfl, HE0.out.trans HE9.out⟩
        · skip
          cases hxy : bit sx y with
          | true =>
            rw [hxy] at HXY
            have HQ : Hid (shwQ ⟨3, n, num⟩ b g x y = false) := by (show _ = _; simp [shwQ, hty, htx, hxy])
            have HLQ : Hid (∀ z, z < y + 1 → shwQ ⟨3, n, num⟩ b g x z = false) := fun z hz => by
              rcases Nat.lt_succ_iff_lt_or_eq.1 hz with h | rfl
              · exact HL.out z h
              · exact HQ.out
            clear hty htx
            go_upto_region 5 with fail
            refine wp_region_ext (by kernel_rfl) (by kernel_rfl) ?_
            repeat (go_big_quiet_step ((go_at_call 97; first | with_reducible exact Calls.ext_same (HYX.out _) | with_reducible exact Calls.ext_same (HXY.out _))))
            refine wpQuiet_nil ?_
            rintro w9 ⟨⟨_, hE9⟩, rfl⟩
            have HE9 := hide (HE.out.trans hE9)
            clear hE9 r0 r1 rz y0 x0 gz
            obtain ⟨r0, r1, rz⟩ := cells_rule ((HE9.out.b.block _ (lt_of_heap HR.out)).trans HR.out)
            go_wp2_with (go_at_call 97; refine (HBY.out _).mono ?_; rintro e w' ⟨rfl, rfl⟩)
            go_roundw
            case rel => first
              | exact ⟨y + 1, by omega, by go_num, HE9, HLQ⟩
              | ((repeat apply Exists.intro); exact ⟨⟨y + 1, by omega, by go_num, HE9, HLQ⟩, rfl⟩)
            case measure => simp [intOf]; omega
          | false =>
            rw [hxy] at HXY
            have HQ : Hid (res = true) := by
              show _ = _
              rw [HV.out, Bool.or_eq_true]
              exact .inl (List.any_eq_true.2 ⟨y, List.mem_range.2 hlt, by simp [shwQ, hty, htx, hqx, hxy]⟩)
            clear hty htx
            go_upto_region 5 with fail
            refine wp_region_ext (by kernel_rfl) (by kernel_rfl) ?_
            repeat (go_big_quiet_step ((go_at_call 97; first | with_reducible exact Calls.ext_same (HYX.out _) | with_reducible exact Calls.ext_same (HXY.out _))))
            refine wpQuiet_nil ?_
            rintro w9 ⟨⟨_, hE9⟩, rfl⟩
            have HE9 := hide (HE.out.trans hE9)
            clear hE9 r0 r1 rz y0 x0 gz
            obtain ⟨r0, r1, rz⟩ := cells_rule ((HE9.out.b.block _ (lt_of_heap HR.out)).trans HR.out)
            go_wp2_with (go_at_call 97; refine (HBY.out _).mono ?_; rintro e w' ⟨rfl, rfl⟩)
            go_ret
            exact ⟨by rw [HQ.out]; rfl, HE0.out.trans HE9.out⟩
        · skip
          cases hyx : bit sy x with
          | true =>
            rw [hyx] at HYX
            cases hxy : bit sx y with
            | true =>
              rw [hxy] at HXY
              have HQ : Hid (shwQ ⟨4, n, num⟩ b g x y = false) := by (show _ = _; simp [shwQ, hty, htx, hyx, hxy])
              have HLQ : Hid (∀ z, z < y + 1 → shwQ ⟨4, n, num⟩ b g x z = false) := fun z hz => by
                rcases Nat.lt_succ_iff_lt_or_eq.1 hz with h | rfl
                · exact HL.out z h
                · exact HQ.out
              clear hty htx
              go_upto_region 5 with fail
              refine wp_region_ext (by kernel_rfl) (by kernel_rfl) ?_
              repeat (go_big_quiet_step ((go_at_call 97; first | with_reducible exact Calls.ext_same (HYX.out _) | with_reducible exact Calls.ext_same (HXY.out _))))
              refine wpQuiet_nil ?_
              rintro w9 ⟨⟨_, hE9⟩, rfl⟩
              have HE9 := hide (HE.out.trans hE9)
              clear hE9 r0 r1 rz y0 x0 gz
              obtain ⟨r0, r1, rz⟩ := cells_rule ((HE9.out.b.block _ (lt_of_heap HR.out)).trans HR.out)
              go_wp2_with (go_at_call 97; refine (HBY.out _).mono ?_; rintro e w' ⟨rfl, rfl⟩)
              go_roundw
              case rel => first
                | exact ⟨y + 1, by omega, by go_num, HE9, HLQ⟩
                | ((repeat apply Exists.intro); exact ⟨⟨y + 1, by omega, by go_num, HE9, HLQ⟩, rfl⟩)
              case measure => simp [intOf]; omega
            | false =>
              rw [hxy] at HXY
              cases hby : bit b y with
              | true =>
                rw [hby] at HBY
                have HQ : Hid (shwQ ⟨4, n, num⟩ b g x y = false) := by (show _ = _; simp [shwQ, hty, htx, hyx, hxy, hby])
                have HLQ : Hid (∀ z, z < y + 1 → shwQ ⟨4, n, num⟩ b g x z = false) := fun z hz => by
                  rcases Nat.lt_succ_iff_lt_or_eq.1 hz with h | rfl
                  · exact HL.out z h
                  · exact HQ.out
                clear hty htx
                go_upto_region 5 with fail
                refine wp_region_ext (by kernel_rfl) (by kernel_rfl) ?_
                repeat (go_big_quiet_step ((go_at_call 97; first | with_reducible exact Calls.ext_same (HYX.out _) | with_reducible exact Calls.ext_same (HXY.out _))))
                refine wpQuiet_nil ?_
                rintro w9 ⟨⟨_, hE9⟩, rfl⟩
                have HE9 := hide (HE.out.trans hE9)
                clear hE9 r0 r1 rz y0 x0 gz
                obtain ⟨r0, r1, rz⟩ := cells_rule ((HE9.out.b.block _ (lt_of_heap HR.out)).trans HR.out)
                go_wp2_with (go_at_call 97; refine (HBY.out _).mono ?_; rintro e w' ⟨rfl, rfl⟩)
                go_roundw
                case rel => first
                  | exact ⟨y + 1, by omega, by go_num, HE9, HLQ⟩
                  | ((repeat apply Exists.intro); exact ⟨⟨y + 1, by omega, by go_num, HE9, HLQ⟩, rfl⟩)
                case measure => simp [intOf]; omega
              | false =>
                rw [hby] at HBY
                have HQ : Hid (res = true) := by
                  show _ = _
                  rw [HV.out, Bool.or_eq_true]
                  exact .inl (List.any_eq_true.2 ⟨y, List.mem_range.2 hlt, by simp [shwQ, hty, htx, hqx, hyx, hxy, hby]⟩)
                clear hty htx
                go_upto_region 5 with fail
                refine wp_region_ext (by kernel_rfl) (by kernel_rfl) ?_
                repeat (go_big_quiet_step ((go_at_call 97; first | with_reducible exact Calls.ext_same (HYX.out _) | with_reducible exact Calls.ext_same (HXY.out _))))
                refine wpQuiet_nil ?_
                rintro w9 ⟨⟨_, hE9⟩, rfl⟩
                have HE9 := hide (HE.out.trans hE9)
                clear hE9 r0 r1 rz y0 x0 gz
                obtain ⟨r0, r1, rz⟩ := cells_rule ((HE9.out.b.block _ (lt_of_heap HR.out)).trans HR.out)
                go_wp2_with (go_at_call 97; refine (HBY.out _).mono ?_; rintro e w' ⟨rfl, rfl⟩)
                go_ret
                exact ⟨by rw [HQ.out]; rfl, HE0.out.trans HE9.out⟩
          | false =>
            rw [hyx] at HYX
            cases hby : bit b y with
            | true =>
              rw [hby] at HBY
              have HQ : Hid (shwQ ⟨4, n, num⟩ b g x y = false) := by (show _ = _; simp [shwQ, hty, htx, hyx, hby])
              have HLQ : Hid (∀ z, z < y + 1 → shwQ ⟨4, n, num⟩ b g x z = false) := fun z hz => by
                rcases Nat.lt_succ_iff_lt_or_eq.1 hz with h | rfl
                · exact HL.out z h
                · exact HQ.out
              clear hty htx
              go_upto_region 5 with fail
              refine wp_region_ext (by kernel_rfl) (by kernel_rfl) ?_
              repeat (go_big_quiet_step ((go_at_call 97; first | with_reducible exact Calls.ext_same (HYX.out _) | with_reducible exact Calls.ext_same (HXY.out _))))
              refine wpQuiet_nil ?_
              rintro w9 ⟨⟨_, hE9⟩, rfl⟩
              have HE9 := hide (HE.out.trans hE9)
              clear hE9 r0 r1 rz y0 x0 gz
              obtain ⟨r0, r1, rz⟩ := cells_rule ((HE9.out.b.block _ (lt_of_heap HR.out)).trans HR.out)
              go_wp2_with (go_at_call 97; refine (HBY.out _).mono ?_; rintro e w' ⟨rfl, rfl⟩)
              go_roundw
              case rel => first
                | exact ⟨y + 1, by omega, by go_num, HE9, HLQ⟩
                | ((repeat apply Exists.intro); exact ⟨⟨y + 1, by omega, by go_num, HE9, HLQ⟩, rfl⟩)
              case measure => simp [intOf]; omega
            | false =>
              rw [hby] at HBY
              have HQ : Hid (res = true) := by
                show _ = _
                rw [HV.out, Bool.or_eq_true]
                exact .inl (List.any_eq_true.2 ⟨y, List.mem_range.2 hlt, by simp [shwQ, hty, htx, hqx, hyx, hby]⟩)
              clear hty htx
              go_upto_region 5 with fail
              refine wp_region_ext (by kernel_rfl) (by kernel_rfl) ?_
              repeat (go_big_quiet_step ((go_at_call 97; first | with_reducible exact Calls.ext_same (HYX.out _) | with_reducible exact Calls.ext_same (HXY.out _))))
              refine wpQuiet_nil ?_
              rintro w9 ⟨⟨_, hE9⟩, rfl⟩
              have HE9 := hide (HE.out.trans hE9)
              clear hE9 r0 r1 rz y0 x0 gz
              obtain ⟨r0, r1, rz⟩ := cells_rule ((HE9.out.b.block _ (lt_of_heap HR.out)).trans HR.out)
              go_wp2_with (go_at_call 97; refine (HBY.out _).mono ?_; rintro e w' ⟨rfl, rfl⟩)
              go_ret
              exact ⟨by rw [HQ.out]; rfl, HE0.out.trans HE9.out⟩
    · obtain rfl : y = n := by omega
      have HQ : Hid (res = (op == 1)) := by
        show _ = _
        rw [HV.out, show (List.range y).any (shwQ ⟨op, y, num⟩ b g x) = false from List.any_eq_false.2 fun z hz => by rw [HL.out z (List.mem_range.1 hz)]; simp, Bool.false_or]
      have HQ2 : Hid (((op : Int) == 1) = (op == 1)) := by
        show _ = _
        rw [Bool.eq_iff_iff, beq_iff_eq, beq_iff_eq]; omega
      go_wp2_with fail
      go_ret
      exact ⟨by rw [HQ.out, ← HQ2.out]; rfl, HE0.out.trans HE.out⟩
def fitQ (r : Rul) (b o : Nat) (g : Gr) (x : Nat) : Bool := !(bit o x && !bit b x && !showsB r b g x)
theorem fitsB_eq (r : Rul) (b o : Nat) (g : Gr) : fitsB r b o g = (List.range r.n).all (fitQ r b o g) := rfl
set_option maxRecDepth 16000 in
set_option maxHeartbeats 4000000 in
theorem rfits_any {op n num b o : Nat} {g : Gr} (hop : 1 ≤ op ∧ op ≤ 4) (hn : n ≤ 5) (hb : b < 32) (ho : o < 32) (hg : GS n g) (w : World) :
    Calls Tryz.prog 139 #[.agg #[.int .i64 op, .int .i64 n, .int .i64 num], .int .i64 b, .int .i64 o, g.v] w fun e w' => e = .returned (.bool (fitsB ⟨op, n, num⟩ b o g)) ∧ Ext w w' := by
  have HV := hide (fitsB_eq ⟨op, n, num⟩ b o g)
  have HSH := hide (fun x (hx : x < n) W => rshows_any (num := num) (w := W) hop hn hb hx hg)
  have HO := hide (fun x (hx : x < n) W => rhasb_any (s := o) (p := x) ho (by omega) W)
  have HB := hide (fun x (hx : x < n) W => rhasb_any (s := b) (p := x) hb (by omega) W)
  generalize fitsB ⟨op, n, num⟩ b o g = res at HV ⊢
  have HQQ : Hid (∀ x, fitQ ⟨op, n, num⟩ b o g x = !(bit o x && !bit b x && !showsB ⟨op, n, num⟩ b g x)) := fun x => rfl
  generalize showsB ⟨op, n, num⟩ b g = sh at HSH HQQ
  generalize fitQ ⟨op, n, num⟩ b o g = fq at HQQ HV
  go_enter Tryz.func139, Tryz.ntmps139
  go_wp2_with fail
  obtain ⟨w1, hw1⟩ : ∃ w1, (w.alloc (.cells #[.int .i64 op, .int .i64 n, .int .i64 num] 101)).alloc (.cells #[.int .i64 g.n, .int .i64 g.h0, .int .i64 g.h1, .int .i64 g.h2, .int .i64 g.h3, .int .i64 g.h4] 37) = w1 := ⟨_, rfl⟩
  have HE0 : Hid (Ext w w1) := by show Ext _ _; rw [← hw1]; exact ((Ext.refl w).alloc _).alloc _
  have HR : Hid (w1.heap[w.heap.size]? = some (.cells #[.int .i64 op, .int .i64 n, .int .i64 num] 101 (0, 0))) := by show _ = _; rw [← hw1]; exact (Below.heap_alloc _ _ _ (by simp)).trans (heap_alloc_new w _)
  have HG : Hid (GrBox w1 (w.heap.size + 1) g) := by
    show _ = _
    rw [← hw1]
    have := heap_alloc_new (w.alloc (.cells #[.int .i64 op, .int .i64 n, .int .i64 num] 101)) (.cells #[.int .i64 g.n, .int .i64 g.h0, .int .i64 g.h1, .int .i64 g.h2, .int .i64 g.h3, .int .i64 g.h4] 37)
    rwa [World.size_alloc] at this
  rw [hw1]
  clear hw1
  go_loopw [9] (fun v wr => ∃ x : Nat, x ≤ n ∧ v = .int .i64 x ∧ Hid (Ext w1 wr) ∧ Hid (∀ z, z < x → fq z = true)) (fun v _ => n - (intOf v).toNat)
  case atStart => exact ⟨0, Nat.zero_le _, rfl, Ext.refl _, fun z hz => absurd hz (Nat.not_lt_zero z)⟩
  case round =>
    obtain ⟨x, hx, rfl, HE, HL⟩ := hrel
    have hRB := (HE.out.b.block _ (lt_of_heap HR.out)).trans HR.out
    obtain ⟨r0, r1, rz⟩ := cells_rule hRB
    have r2 : wr.cell? ⟨w.heap.size, 2, none⟩ = some (.int .i64 num) := cells_at hRB 2
    by_cases hlt : x < n
    · have hGB : GrBox wr (w.heap.size + 1) g := (HE.out.b.block _ (lt_of_heap HG.out)).trans HG.out
      obtain ⟨g0, g1, g2, g3, g4, g5, gz⟩ := hGB.cells
      clear hGB hRB
      cases hox : bit o x with
      | false =>
        have HLQ : Hid (∀ z, z < x + 1 → fq z = true) := fun z hz => by
          rcases Nat.lt_succ_iff_lt_or_eq.1 hz with h | rfl
          · exact HL.out z h
          · rw [HQQ.out, hox]; simp
        go_wp2_with (go_at_call 97; first | (with_reducible refine (HO.out _ hlt _).mono ?_; rintro e w' ⟨rfl, rfl⟩) | (with_reducible refine (HB.out _ hlt _).mono ?_; rintro e w' ⟨rfl, rfl⟩))
        go_roundw
        case rel => first
          | exact ⟨x + 1, by omega, by go_num, HE, HLQ⟩
          | ((repeat apply Exists.intro); exact ⟨⟨x + 1, by omega, by go_num, HE, HLQ⟩, rfl⟩)
        case measure => simp [intOf]; omega
      | true =>
        cases hbx : bit b x with
        | true =>
          have HLQ : Hid (∀ z, z < x + 1 → fq z = true) := fun z hz => by
            rcases Nat.lt_succ_iff_lt_or_eq.1 hz with h | rfl
            · exact HL.out z h
            · rw [HQQ.out, hox, hbx]; simp
          go_wp2_with (go_at_call 97; first | (with_reducible refine (HO.out _ hlt _).mono ?_; rintro e w' ⟨rfl, rfl⟩) | (with_reducible refine (HB.out _ hlt _).mono ?_; rintro e w' ⟨rfl, rfl⟩))
          go_roundw
          case rel => first
            | exact ⟨x + 1, by omega, by go_num, HE, HLQ⟩
            | ((repeat apply Exists.intro); exact ⟨⟨x + 1, by omega, by go_num, HE, HLQ⟩, rfl⟩)
          case measure => simp [intOf]; omega
        | false =>
          have HSX := hide (HSH.out x hlt)
          have HOX := hide hox
          have HBX := hide hbx
          cases hsx : sh x with
          | false =>
            have HQ : Hid (res = false) := by
              show _ = _
              rw [HV.out, List.all_eq_false]
              exact ⟨x, List.mem_range.2 hlt, by rw [HQQ.out, HOX.out, HBX.out, hsx]; simp⟩
            rw [hsx] at HSX
            clear hsx
            go_wp2_with (go_at_call 97; first | (with_reducible refine (HO.out _ hlt _).mono ?_; rintro e w' ⟨rfl, rfl⟩) | (with_reducible refine (HB.out _ hlt _).mono ?_; rintro e w' ⟨rfl, rfl⟩))
            refine (HSX.out _).mono ?_
            rintro e w3 ⟨rfl, hE3⟩
            go_wp2_with fail
            go_ret
            exact ⟨by rw [HQ.out]; rfl, HE0.out.trans (HE.out.trans hE3)⟩
          | true =>
            have HLQ : Hid (∀ z, z < x + 1 → fq z = true) := fun z hz => by
              rcases Nat.lt_succ_iff_lt_or_eq.1 hz with h | rfl
              · exact HL.out z h
              · rw [HQQ.out, hox, hbx, hsx]; simp
            rw [hsx] at HSX
            clear hsx
            go_wp2_with (go_at_call 97; first | (with_reducible refine (HO.out _ hlt _).mono ?_; rintro e w' ⟨rfl, rfl⟩) | (with_reducible refine (HB.out _ hlt _).mono ?_; rintro e w' ⟨rfl, rfl⟩))
            refine (HSX.out _).mono ?_
            rintro e w3 ⟨rfl, hE3⟩
            have HE3 := hide (HE.out.trans hE3)
            clear hE3
            go_wp2_with fail
            go_roundw
            case rel => first
              | exact ⟨x + 1, by omega, by go_num, HE3, HLQ⟩
              | ((repeat apply Exists.intro); exact ⟨⟨x + 1, by omega, by go_num, HE3, HLQ⟩, rfl⟩)
            case measure => simp [intOf]; omega
    · obtain rfl : x = n := by omega
      have HQ : Hid (res = true) := by
        show _ = _
        rw [HV.out, List.all_eq_true]
        exact fun z hz => HL.out z (List.mem_range.1 hz)
      go_wp2_with fail
      go_ret
      exact ⟨by rw [HQ.out]; rfl, HE0.out.trans HE.out⟩
end Go.Proofs.YtdlhnpogddpmpaaGreat

namespace Go.Proofs.YtdlhnpogddpmpaaGreat
open Go.RowKit
attribute [local go_sem] Oper.semAt_some

/-! ### Plain -/
def grE (ok : Nat → Bool) (n p : Nat) (g : Gr) : List Gr := ((List.range (2 ^ n)).filter ok).map fun (s : Nat) => g.set p (s : Int)
def grF (ok : Nat → Bool) (p : Nat) (g : Gr) (k : Nat) : List Gr := ((List.range k).filter ok).map fun (s : Nat) => g.set p (s : Int)
theorem grF_yes {ok : Nat → Bool} {p k : Nat} {g : Gr} (h : ok k = true) : grF ok p g (k + 1) = grF ok p g k ++ [g.set p (k : Int)] := by
  unfold grF; rw [List.range_succ, List.filter_append, List.map_append]; simp [h]
theorem grF_no {ok : Nat → Bool} {p k : Nat} {g : Gr} (h : ok k = false) : grF ok p g (k + 1) = grF ok p g k := by
  unfold grF; rw [List.range_succ, List.filter_append, List.map_append]; simp [h]
theorem grF_len (ok : Nat → Bool) (p : Nat) (g : Gr) (k : Nat) : (grF ok p g k).length ≤ k := by
  unfold grF; rw [List.length_map]
  exact Nat.le_trans (List.length_filter_le _ _) (by rw [List.length_range]; exact Nat.le_refl _)
/-- The graphs while those of place i are laid. -/
def grN (ok : Gr → Nat → Bool) (n p : Nat) (l : List Gr) (i : Nat) : List Gr := (l.take i).flatMap fun g => grF (ok g) p g (2 ^ n)
theorem grN_succ {ok : Gr → Nat → Bool} {n p : Nat} {l : List Gr} {i : Nat} {g : Gr} (h : l[i]? = some g) : grN ok n p l (i + 1) = grN ok n p l i ++ grF (ok g) p g (2 ^ n) := by
  unfold grN; rw [List.take_add_one, h, Option.toList_some, List.flatMap_append]; simp
theorem flat_len_le {F : Gr → List Gr} {m : Nat} (h : ∀ g, (F g).length ≤ m) : ∀ l : List Gr, (l.flatMap F).length ≤ l.length * m
  | [] => by simp
  | g :: l => by
    rw [List.flatMap_cons, List.length_append, List.length_cons, Nat.succ_mul]
    have := h g
    have := flat_len_le h l
    omega
theorem grN_len (ok : Gr → Nat → Bool) (n p : Nat) (l : List Gr) (i : Nat) : (grN ok n p l i).length ≤ min i l.length * 2 ^ n := by
  have := flat_len_le (F := fun g => grF (ok g) p g (2 ^ n)) (fun g => grF_len (ok g) p g (2 ^ n)) (l.take i)
  rwa [List.length_take] at this
theorem grN_all (ok : Gr → Nat → Nat → Bool) (n p : Nat) (l : List Gr) : grN (fun g s => ok g p s) n p l l.length = growG n ok p l := by
  unfold grN growG
  rw [List.take_length]; rfl
/-- The graphs whose rows up to p are laid. -/
def grL (n : Nat) (ok : Gr → Nat → Nat → Bool) (p : Nat) : List Gr := (List.range p).foldl (fun l p => growG n ok p l) [gzn n]
theorem grL_succ (n : Nat) (ok : Gr → Nat → Nat → Bool) (p : Nat) : grL n ok (p + 1) = growG n ok p (grL n ok p) := by
  unfold grL; rw [List.range_succ, List.foldl_append]; rfl
theorem grL_len (n : Nat) (ok : Gr → Nat → Nat → Bool) : ∀ p, (grL n ok p).length ≤ (2 ^ n) ^ p
  | 0 => by simp [grL]
  | p + 1 => by
    rw [grL_succ, ← grN_all, Nat.pow_succ]
    have h := grN_len (fun g s => ok g p s) n p (grL n ok p) (grL n ok p).length
    rw [Nat.min_self] at h
    exact Nat.le_trans h (Nat.mul_le_mul_right _ (grL_len n ok p))
theorem pow_le5 {n p : Nat} (hn : n ≤ 5) (hp : p ≤ 5) : (2 ^ n) ^ p ≤ 33554432 := by
  calc (2 ^ n) ^ p ≤ 32 ^ p := Nat.pow_le_pow_left (pow32_le hn) p
    _ ≤ 32 ^ 5 := Nat.pow_le_pow_right (by decide) hp
    _ = 33554432 := by decide
theorem grL_few {n p : Nat} (ok : Gr → Nat → Nat → Bool) (hn : n ≤ 5) (hp : p ≤ 5) : (grL n ok p).length ≤ 33554432 := Nat.le_trans (grL_len n ok p) (pow_le5 hn hp)
theorem grL_gs {n : Nat} (ok : Gr → Nat → Nat → Bool) (hn : n ≤ 5) : ∀ p, p ≤ n → ∀ g ∈ grL n ok p, GS n g
  | 0, _, g, h => by
    have : g = gzn n := by simpa [grL] using h
    rw [this]; exact GS.zero n
  | p + 1, hp, g, h => by
    rw [grL_succ] at h
    obtain ⟨g0, h0, h1⟩ := List.mem_flatMap.1 h
    obtain ⟨s, hs, rfl⟩ := List.mem_map.1 h1
    have := List.mem_range.1 (List.mem_filter.1 hs).1
    have h32 := pow32_le hn
    exact (grL_gs ok hn p (by omega) g0 h0).set (by omega) (by omega)
theorem rowsG_eq (n : Nat) (ok : Gr → Nat → Nat → Bool) : rowsG n ok = grL n ok n := rfl
theorem gr_info17 : (Tryz.prog.info? 37).map (fun i => (i.zero, i.size, i.bytes)) = some (some (gzn 0).v, 6, 48) := by kernel_rfl
theorem gr_one17 (g : Gr) : ∀ u ∈ Gr.cells g, u.oneCell' = true := by
  intro u hu
  simp only [List.mem_cons, List.not_mem_nil, or_false] at hu
  rcases hu with rfl | rfl | rfl | rfl | rfl | rfl <;> rfl
/-! ### size -/
def elN (s p : Nat) : List Int := ((List.range p).filter fun q => bit s q).map fun (q : Nat) => (q : Int)
theorem elN_yes {s p : Nat} (h : bit s p = true) : elN s (p + 1) = elN s p ++ [(p : Int)] := by unfold elN; rw [List.range_succ, List.filter_append, List.map_append]; simp [h]
theorem elN_no {s p : Nat} (h : bit s p = false) : elN s (p + 1) = elN s p := by unfold elN; rw [List.range_succ, List.filter_append, List.map_append]; simp [h]
theorem elN_len (s p : Nat) : (elN s p).length ≤ p := by
  unfold elN; rw [List.length_map]
  exact Nat.le_trans (List.length_filter_le _ _) (by rw [List.length_range]; exact Nat.le_refl _)
theorem elN_size (s : Nat) : (elN s 5).length = sizeN s := by unfold elN sizeN; rw [List.length_map, List.countP_eq_length_filter]; rfl
set_option maxRecDepth 16000 in
set_option maxHeartbeats 1000000 in
theorem rlist17_any {s : Nat} (hs : s < 32) (w : World) : Calls Tryz.prog 137 #[.int .i64 s] w fun e w' => (∃ q c, e = .returned (.slice q (sizeN s) c)) ∧ Ext w w' := by
  have HB := hide (fun p (hp : p < 5) W => rhasb_any (s := s) (p := p) hs hp W)
  have HY := hide (fun p (h : bit s p = true) => elN_yes h)
  have HNO := hide (fun p (h : bit s p = false) => elN_no h)
  have HL := hide (elN_len s)
  have HZ := hide (elN_size s)
  have HO0 : Hid (Own icells 1 w w.heap.size 3 (.slice none 0 0) (elN s 0)) := Own.nil _ _ _ (fun _ => rfl)
  generalize elN s = et at *
  go_enter Tryz.func137, Tryz.ntmps137
  go_wp2_with fail
  go_loopw [3, 4] (fun u x V => ∃ (p : Nat) (q : Option Addr) (c : Nat), p ≤ 5 ∧ x = .int .i64 p ∧ u = .slice q (et p).length c ∧ Hid (Ext w V) ∧ Hid (Own icells 1 V w.heap.size 3 u (et p))) (fun _ x _ => 5 - (intOf x).toNat)
  case atStart =>
    have h0 : et 0 = [] := by have := HL.out 0; exact List.length_eq_zero_iff.1 (by omega)
    refine ⟨0, none, 0, by omega, rfl, by rw [h0]; rfl, Ext.refl _, HO0.out⟩
  case round =>
    clear HO0
    obtain ⟨p, su, sc, hp, rfl, rfl, HE, HO⟩ := hrel
    by_cases hlt : p < 5
    · have HC := hide (fun W => HB.out p hlt W)
      have hpI : (p : Int) < 5 := by omega
      cases hb : bit s p with
      | false =>
        rw [hb] at HC
        have HS := hide (HNO.out p hb)
        have HO2 : Hid (Own icells 1 wr w.heap.size 3 (.slice su (et p).length sc) (et (p + 1))) := by show Own _ _ _ _ _ _ _; rw [HS.out]; exact HO.out
        have HLEN : Hid ((et p).length = (et (p + 1)).length) := by show _ = _; rw [HS.out]
        clear hb HS
        generalize (et p).length = n at HO HO2 HLEN ⊢
        go_wp2_with fail
        refine (HC.out _).mono ?_
        rintro e w1 ⟨rfl, rfl⟩
        go_wp2_with fail
        go_roundw
        case rel => exact ⟨p + 1, su, sc, by omega, by go_num, by rw [HLEN.out], HE, HO2⟩
        case measure => simp [intOf]; omega
      | true =>
        rw [hb] at HC
        have HS := hide (HY.out p hb)
        have HLP := hide (HL.out p)
        clear hb
        go_wp2_with fail
        refine (HC.out _).mono ?_
        rintro e w1 ⟨rfl, rfl⟩
        go_wp2_with (at_builtin; refine wpList_append1 rfl (.tmp 12) (.tmp 14) 48 rfl w.heap.size 3 (.int .i64 0) 1 8 Tryz.underlying48 int_info rfl (by decide) _ (et p) (p : Int) w1.heap.size rfl (HO.out.alloc _) rfl (cell_new1 _ _ _) (int_one _) (by have := HLP.out; omega) (by decide) (by simp only [World.size_alloc]; have := HE.out.size; omega) ?_; intro v' W6 hown' hg6 hf6; obtain ⟨g6, c6, rfl, hgf6⟩ := hf6; have HOW := hide hown'; have HGW := hide hg6; clear hown' hg6 hgf6)
        have hge : ∀ k, (Value.slice su (et p).length sc).ownBlock = some k → w.heap.size ≤ k := HO.out.block_ge
        have hE6 : Ext w W6 := (HE.out.alloc _).grown HGW.out (fun k hk => by have := hge k hk; omega)
        have hlen : (et p).length + 1 = (et (p + 1)).length := by rw [HS.out, List.length_append]; rfl
        have hown' : Own icells 1 W6 w.heap.size 3 (.slice (some ⟨g6, 0, none⟩) ((et p).length + 1) c6) (et (p + 1)) := by rw [HS.out]; exact HOW.out
        have HFIN := hide (And.intro hE6 (And.intro hlen hown'))
        clear hge hE6 hown' HS HLP HOW HGW hlen
        go_roundw
        case rel => exact ⟨p + 1, some ⟨g6, 0, none⟩, c6, by omega, by go_num, by rw [← HFIN.out.2.1], HFIN.out.1, HFIN.out.2.2⟩
        case measure => simp [intOf]; omega
    · obtain rfl : p = 5 := by omega
      rw [HZ.out] at HO ⊢
      go_wp2_with fail
      go_ret
      exact ⟨⟨_, _, rfl⟩, HE.out⟩
set_option maxRecDepth 16000 in
theorem rsize17_any {s : Nat} (hs : s < 32) (w : World) : Calls Tryz.prog 126 #[.int .i64 s] w fun e w' => e = .returned (.int .i64 (sizeN s : Nat)) ∧ Ext w w' := by
  have HC := hide (fun W => rlist17_any hs W)
  go_enter Tryz.func126, Tryz.ntmps126
  go_wp2_with fail
  refine (HC.out _).mono ?_
  rintro e w1 ⟨⟨q, c, rfl⟩, hE⟩
  go_wp2_with fail
  go_ret
  exact ⟨rfl, hE⟩
end Go.Proofs.YtdlhnpogddpmpaaGreat

namespace Go.Proofs.YtdlhnpogddpmpaaGreat
open Go.RowKit
attribute [local go_sem] Oper.semAt_some

theorem own_gr {w : World} {base gl n c : Nat} {l : List Gr} (h : Own Gr.cells 6 w base 37 (.slice (some ⟨gl, 0, none⟩) n c) l) {i : Nat} {g : Gr} (hi : l[i]? = some g) :
    w.cell? ⟨gl, i * 6, none⟩ = some (.int .i64 g.n) ∧ w.cell? ⟨gl, i * 6 + 1, none⟩ = some (.int .i64 g.h0) ∧ w.cell? ⟨gl, i * 6 + 2, none⟩ = some (.int .i64 g.h1) ∧ w.cell? ⟨gl, i * 6 + 3, none⟩ = some (.int .i64 g.h2) ∧
      w.cell? ⟨gl, i * 6 + 4, none⟩ = some (.int .i64 g.h3) ∧ w.cell? ⟨gl, i * 6 + 5, none⟩ = some (.int .i64 g.h4) ∧ gl < w.heap.size :=
  ⟨own_at h hi (j := 0) rfl, own_at h hi (j := 1) rfl, own_at h hi (j := 2) rfl, own_at h hi (j := 3) rfl, own_at h hi (j := 4) rfl, own_at h hi (j := 5) rfl, (h.2.lt gl rfl).2⟩
theorem own_addr {w : World} {base n c : Nat} {q : Option Addr} {l : List Gr} (h : Own Gr.cells 6 w base 37 (.slice q n c) l) {i : Nat} (hi : i < l.length) : ∃ gl, q = some ⟨gl, 0, none⟩ := by
  rcases h.form with ⟨-, h0⟩ | ⟨g, c', h1, -⟩
  · rw [h0] at hi; exact absurd hi (Nat.not_lt_zero _)
  · injection h1 with h1; exact ⟨g, h1⟩
theorem gr_new17 (W : World) (g : Gr) : ∀ j u, (Gr.cells g)[j]? = some u → (W.alloc (.cells #[.int .i64 g.n, .int .i64 g.h0, .int .i64 g.h1, .int .i64 g.h2, .int .i64 g.h3, .int .i64 g.h4] 37)).cell? ⟨W.heap.size, j, none⟩ = some u := fun j u h => by
  rw [cell_of_row _ _ _ _ _ _ (heap_alloc_new W _), ← h, ← List.getElem?_toArray]
/-- A graph more in a list of one's own. -/
theorem own_push {V0 V W : World} {n c : Nat} {q : Option Addr} {l : List Gr} {o : Obj} {_l' : List Gr} {_v' : Value} (hE : Ext V0 V) (h : Own Gr.cells 6 V V0.heap.size 37 (.slice q n c) l) (hg : (V.alloc o).grownBy W (Value.slice q n c).ownBlock) : Ext V0 W :=
  (hE.alloc o).grown hg fun k hk => h.block_ge k hk
set_option maxRecDepth 16000 in
set_option maxHeartbeats 4000000 in
theorem rgraphs_any {op n num b o : Nat} (hop : 1 ≤ op ∧ op ≤ 4) (hn : n ≤ 5) (hb : b < 32) (ho : o < 32) (w : World) :
    Calls Tryz.prog 127 #[.agg #[.int .i64 op, .int .i64 n, .int .i64 num], .int .i64 b, .int .i64 o] w fun e w' => ∃ v, e = .returned v ∧ Own Gr.cells 6 w' w.heap.size 37 v (graphsB ⟨op, n, num⟩ b o) ∧ Ext w w' := by
  have HROW := hide (fun p s (hp : p < 5) (hs : s < 32) W => rrow_any (num := num) hop hn hb ho hp hs W)
  have HFIT := hide (fun g (hg : GS n g) W => rfits_any (num := num) hop hn hb ho hg W)
  have HFULL := hide (fun W => rfulln_any hn W)
  obtain ⟨ok, hok⟩ : ∃ ok : Gr → Nat → Nat → Bool, ok = fun _ p s => rowB ⟨op, n, num⟩ b o p s := ⟨_, rfl⟩
  have HRB : Hid (∀ g p s, rowB ⟨op, n, num⟩ b o p s = ok g p s) := fun g p s => by rw [hok]
  have HRES : Hid (graphsB ⟨op, n, num⟩ b o = (grL n ok n).filter (fitsB ⟨op, n, num⟩ b o)) := by show _ = _; rw [← rowsG_eq, hok]; rfl
  obtain ⟨lst, hlst⟩ : ∃ lst, grL n ok = lst := ⟨_, rfl⟩
  have HLSU : Hid (∀ p, lst (p + 1) = growG n ok p (lst p)) := fun p => by rw [← hlst, grL_succ]
  have HLFW : Hid (∀ p, p ≤ 5 → (lst p).length ≤ 33554432) := fun p hp => by rw [← hlst]; exact grL_few ok hn hp
  have HLGS : Hid (∀ p, p ≤ n → ∀ g ∈ lst p, GS n g) := by rw [← hlst]; exact grL_gs ok hn
  have HL0 : Hid (lst 0 = [gzn n]) := by rw [← hlst]; rfl
  have hpow := pow32_le hn
  have HFN : Hid (fullN n + 1 = 2 ^ n) := by show fullN n + 1 = _; have := Nat.two_pow_pos n; unfold fullN; omega
  rw [hlst] at HRES
  clear hlst hok
  generalize hN2 : 2 ^ n = N2 at HFN hpow
  have HN2 := hide hN2
  clear hN2
  obtain ⟨w1, hw1⟩ : ∃ w1, w.alloc (.cells #[.int .i64 op, .int .i64 n, .int .i64 num] 101) = w1 := ⟨_, rfl⟩
  have HE0 : Hid (Ext w w1) := by show Ext _ _; rw [← hw1]; exact (Ext.refl w).alloc _
  have HR : Hid (w1.heap[w.heap.size]? = some (.cells #[.int .i64 op, .int .i64 n, .int .i64 num] 101 (0, 0))) := by show _ = _; rw [← hw1]; exact heap_alloc_new w _
  have HZ1 : Hid (w1.heap.size = w.heap.size + 1) := by show _ = _; rw [← hw1]; simp
  have HW := hide hw1
  clear hw1
  generalize graphsB ⟨op, n, num⟩ b o = res at HRES ⊢
  go_enter Tryz.func127, Tryz.ntmps127
  go_wp2_with fail
  rw [HW.out]
  obtain ⟨W0, hW0⟩ : ∃ W0, w1.alloc (.cells #[.int .i64 n, .int .i64 0, .int .i64 0, .int .i64 0, .int .i64 0, .int .i64 0] 37) = W0 := ⟨_, rfl⟩
  have HOW0 : Hid (Own Gr.cells 6 W0 w1.heap.size 37 (.slice (some ⟨w.heap.size + 1, 0, none⟩) 1 1) (lst 0)) := by
    rw [HL0.out, ← HZ1.out]
    exact ⟨fun _ => rfl, rfl, .inr ⟨w1.heap.size, 1, _, rfl, Nat.le_refl _, by rw [← hW0]; exact heap_alloc_new _ _, Nat.le_refl _, by unfold maxLen; omega, rfl, rfl⟩⟩
  have HEW0 : Hid (Ext w1 W0) := by show Ext _ _; rw [← hW0]; exact (Ext.refl _).alloc _
  rw [hW0]
  clear hW0
  go_loopw [7, 8] (fun ul vp V => ∃ (p : Nat) (q : Option Addr) (c : Nat), p ≤ n ∧ vp = .int .i64 p ∧ ul = .slice q (lst p).length c ∧ Hid (Ext w1 V) ∧ Hid (Own Gr.cells 6 V w1.heap.size 37 ul (lst p))) (fun _ vp _ => n - (intOf vp).toNat)
  case atStart => exact ⟨0, some ⟨w.heap.size + 1, 0, none⟩, 1, Nat.zero_le _, rfl, by rw [HL0.out]; rfl, HEW0.out, HOW0.out⟩
  case round =>
    clear HOW0 HEW0 W0
    obtain ⟨p, lq, lc, hp, rfl, rfl, HE, HOL⟩ := hrel
    obtain ⟨V0, hV0⟩ : ∃ V0, V0 = wr := ⟨_, rfl⟩
    subst hV0
    obtain ⟨r0, r1, rz⟩ := cells_rule ((HE.out.b.block _ (lt_of_heap HR.out)).trans HR.out)
    by_cases hlt : p < n
    · obtain ⟨L, hL⟩ : ∃ L, lst p = L := ⟨_, rfl⟩
      have HLF : Hid (L.length ≤ 33554432) := by show _ ≤ _; rw [← hL]; exact HLFW.out p (by omega)
      have HLNX : Hid (lst (p + 1) = growG n ok p L) := by show _ = _; rw [HLSU.out, hL]
      have HNF : Hid ((lst (p + 1)).length ≤ 33554432) := HLFW.out (p + 1) (by omega)
      rw [hL] at HOL ⊢
      obtain ⟨nx, hnx⟩ : ∃ nx, grN (fun g s => ok g p s) n p L = nx := ⟨_, rfl⟩
      have HN0 : Hid (nx 0 = []) := by rw [← hnx]; rfl
      have HNS : Hid (∀ i g, L[i]? = some g → nx (i + 1) = nx i ++ grF (ok g p) p g N2) := fun i g h => by rw [← hnx, grN_succ h, HN2.out]
      have HNA : Hid (nx L.length = lst (p + 1)) := by show _ = _; rw [HLNX.out, ← hnx]; exact grN_all ok n p L
      have HNL : Hid (∀ i, i < L.length → (nx i).length + N2 ≤ L.length * N2) := fun i hi => by
        rw [← hnx, ← HN2.out]
        have h1 := grN_len (fun g s => ok g p s) n p L i
        rw [Nat.min_eq_left (by omega)] at h1
        calc _ ≤ i * 2 ^ n + 2 ^ n := Nat.add_le_add_right h1 _
          _ = (i + 1) * 2 ^ n := by rw [Nat.succ_mul]
          _ ≤ L.length * 2 ^ n := Nat.mul_le_mul_right _ hi
      clear hL hnx HLNX
      generalize hln : L.length = ln at HOL HLF HNA HNL ⊢
      have HLN := hide hln
      clear hln
      go_upto_region 7 with fail
      go_loopw [9, 10] (fun un vi V => ∃ (i : Nat) (q : Option Addr) (c : Nat), i ≤ ln ∧ vi = .int .i64 i ∧ un = .slice q (nx i).length c ∧ Hid (Ext V0 V) ∧ Hid (Own Gr.cells 6 V V0.heap.size 37 un (nx i))) (fun _ vi _ => ln - (intOf vi).toNat)
      case atStart => exact ⟨0, none, 0, Nat.zero_le _, rfl, by rw [HN0.out]; rfl, Ext.refl _, by rw [HN0.out]; exact Own.nil _ _ _ (fun _ => rfl)⟩
      case round =>
        clear r0 r1 rz
        obtain ⟨i, nq, nc, hi, rfl, rfl, HE1, HON⟩ := hrel
        obtain ⟨V1, hV1⟩ : ∃ V1, V1 = wr := ⟨_, rfl⟩
        subst hV1
        by_cases hlti : i < ln
        · obtain ⟨g, hg⟩ : ∃ g, L[i]? = some g := ⟨_, List.getElem?_eq_getElem (by rw [HLN.out]; exact hlti)⟩
          obtain ⟨gl, rfl⟩ : ∃ gl, lq = some ⟨gl, 0, none⟩ := own_addr HOL.out (i := i) (by rw [HLN.out]; exact hlti)
          have HG := hide hg
          obtain ⟨ac, hac⟩ : ∃ ac, nx i = ac := ⟨_, rfl⟩
          have HACL : Hid (ac.length + N2 ≤ ln * N2) := by show _ ≤ _; rw [← hac]; exact HNL.out i hlti
          have HNS1 : Hid (nx (i + 1) = ac ++ grF (ok g p) p g (N2)) := by show _ = _; rw [← hac]; exact HNS.out i g hg
          rw [hac] at HON ⊢
          have HYES := hide (fun s (h : ok g p s = true) => grF_yes (p := p) (g := g) h)
          have HNOS := hide (fun s (h : ok g p s = false) => grF_no (p := p) (g := g) h)
          have HFL := hide (grF_len (ok g p) p g)
          have HF0 : Hid (grF (ok g p) p g 0 = []) := rfl
          have HROWG : Hid (∀ s : Nat, s < 32 → ∀ W, Calls Tryz.prog 138 #[.agg #[.int .i64 op, .int .i64 n, .int .i64 num], .int .i64 b, .int .i64 o, .int .i64 p, .int .i64 s] W fun e w' => e = .returned (.bool (ok g p s)) ∧ Ext W w') := fun s hs W => by
            have := HROW.out p s (by omega) hs W
            rwa [HRB.out g p s] at this
          generalize grF (ok g p) p g = fs at HNS1 HYES HNOS HFL HF0
          generalize ok g p = okg at HYES HNOS HROWG
          clear hg hac
          have hli : (i : Int) < (ln : Int) := by omega
          go_upto_region 10 with fail
          go_loopw [9, 11] (fun un vs V => ∃ (s : Nat) (q : Option Addr) (c : Nat), s ≤ N2 ∧ vs = .int .i64 s ∧ un = .slice q (ac ++ fs s).length c ∧ Hid (Ext V0 V) ∧ Hid (Own Gr.cells 6 V V0.heap.size 37 un (ac ++ fs s))) (fun _ vs _ => N2 - (intOf vs).toNat)
          case atStart => exact ⟨0, nq, nc, Nat.zero_le _, rfl, by rw [HF0.out, List.append_nil], HE1.out, by rw [HF0.out, List.append_nil]; exact HON.out⟩
          case round =>
            clear HON HE1 V1
            obtain ⟨s, sq, sc, hs, rfl, rfl, HE1, HON⟩ := hrel
            obtain ⟨r0, r1, rz⟩ := cells_rule (((HE.out.trans HE1.out).b.block _ (lt_of_heap HR.out)).trans HR.out)
            have r2 : wr.cell? ⟨w.heap.size, 2, none⟩ = some (.int .i64 num) := cells_at (((HE.out.trans HE1.out).b.block _ (lt_of_heap HR.out)).trans HR.out) 2
            have hfn := HFN.out
            generalize hm : (ac ++ fs s).length = m at HON ⊢
            have HM := hide hm
            clear hm
            by_cases hlts : s < N2
            · have hd : decide ((s : Int) ≤ ((fullN n : Nat) : Int)) = true := decide_eq_true (by omega)
              have hd2 : decide (s ≤ fullN n) = true := decide_eq_true (by omega)
              clear hfn
              go_wp2_with (go_at_call 110; refine (HFULL.out _).mono ?_; rintro e w' ⟨rfl, rfl⟩)
              refine (HROWG.out s (by omega) _).mono ?_
              rintro e w2 ⟨rfl, hE2⟩
              have HE2 := hide (HE1.out.trans hE2)
              have HON2 := hide (HON.out.ext hE2)
              have HOL2 := hide (HOL.out.ext HE2.out)
              clear hE2 r0 r1 r2 rz
              cases hok : okg s with
              | false =>
                have HFS : Hid (fs (s + 1) = fs s) := HNOS.out s hok
                clear hok
                go_wp2_with fail
                go_roundw
                case rel => first
                  | exact ⟨s + 1, sq, sc, by omega, by go_num, by rw [HFS.out, HM.out], HE2, by rw [HFS.out]; exact HON2.out⟩
                  | ((repeat apply Exists.intro); exact ⟨⟨s + 1, sq, sc, by omega, by go_num, by rw [HFS.out, HM.out], HE2, by rw [HFS.out]; exact HON2.out⟩, rfl⟩)
                case measure => simp [intOf]; omega
              | true =>
                have HFS : Hid (fs (s + 1) = fs s ++ [g.set p (s : Int)]) := HYES.out s hok
                have HSL : Hid ((fs s).length ≤ s) := HFL.out s
                clear hok
                obtain ⟨g0, g1, g2, g3, g4, g5, gz⟩ := own_gr HOL2.out HG.out
                go_upto_region 14 with fail
                obtain ⟨V3, hV3⟩ : ∃ V3, w2.alloc (.cells #[.int .i64 g.n, .int .i64 g.h0, .int .i64 g.h1, .int .i64 g.h2, .int .i64 g.h3, .int .i64 g.h4] 37) = V3 := ⟨_, rfl⟩
                obtain ⟨gb, hgb⟩ : ∃ gb, w2.heap.size = gb := ⟨_, rfl⟩
                have hE3 : Ext w2 V3 := by rw [← hV3]; exact (Ext.refl _).alloc _
                have HGB : Hid (GrBox V3 gb g) := by show _ = _; rw [← hV3, ← hgb]; exact heap_alloc_new _ _
                have hgbz : V0.heap.size ≤ gb := by rw [← hgb]; exact HE2.out.size
                have hon3 := HON2.out.ext hE3
                have hne : ∀ k, (Value.slice sq m sc).ownBlock = some k → k ≠ gb := fun k hk => by
                  have := (HON2.out.2.lt k hk).2
                  omega
                have HE3 := hide (HE2.out.trans hE3)
                have HON3 := hide hon3
                have HNE := hide hne
                rw [hgb, hV3]
                clear hV3 hgb hE3 hon3 hne g0 g1 g2 g3 g4 g5 gz
                have hp5 : (p : Int) < 5 := by omega
                obtain ⟨h0, hf⟩ := HGB.out.row (p := p) (by omega)
                have hz := lt_of_heap HGB.out
                go_upto_region 15 with fail
                obtain ⟨V4, hV4⟩ : ∃ V4, V3.setCell ⟨gb, 1 + p, none⟩ (.int .i64 s) = V4 := ⟨_, rfl⟩
                have HGB4 : Hid (GrBox V4 gb (g.set p (s : Int))) := by show _ = _; rw [← hV4]; exact HGB.out.set (by omega) _
                have HE4 : Hid (Ext V0 V4) := by show Ext _ _; rw [← hV4]; exact HE3.out.setCell (p := ⟨gb, 1 + p, none⟩) hgbz _
                have HON4 : Hid (Own Gr.cells 6 V4 V0.heap.size 37 (.slice sq m sc) (ac ++ fs s)) := by show Own _ _ _ _ _ _ _; rw [← hV4]; exact HON3.out.setNe (a := ⟨gb, 1 + p, none⟩) (fun k hk => HNE.out k hk) _
                rw [hV4]
                clear hV4 h0 hf hz HGB HE3 HON3 HNE hgbz
                obtain ⟨g0, g1, g2, g3, g4, g5, gz⟩ := HGB4.out.cells
                generalize hgs : g.set p (s : Int) = gs at HFS HGB4 g0 g1 g2 g3 g4 g5 gz
                have HNEW := hide (gr_new17 V4 gs)
                clear hgs
                go_wp2_with (at_builtin; refine wpList_append1 rfl (.tmp 52) (.tmp 54) 149 rfl V0.heap.size 37 (gzn 0).v 6 48 Tryz.underlying149 gr_info17 rfl (by decide) _ (ac ++ fs s) gs V4.heap.size rfl (HON4.out.alloc _) rfl HNEW.out (gr_one17 gs) (by rw [List.length_append]; have h1 := HSL.out; have h2 := HACL.out; have h3 := HLF.out; have h4 : ln * N2 ≤ 33554432 * 32 := Nat.mul_le_mul h3 hpow; omega) (by decide) (by simp only [World.size_alloc]; have := HE4.out.size; omega) ?_; intro v' W6 hown' hg6 hf6; rw [HM.out] at hf6; obtain ⟨g6, c6, rfl, hgf6⟩ := hf6; have HOW := hide hown'; have HGW := hide hg6; clear hown' hg6 hgf6 g0 g1 g2 g3 g4 g5 gz)
                have HE6 : Hid (Ext V0 W6) := (HE4.out.alloc _).grown HGW.out (fun k hk => HON4.out.block_ge k hk)
                have HLE : Hid (m + 1 = (ac ++ fs (s + 1)).length) := by
                  show _ = _
                  rw [HFS.out, ← HM.out]; simp [Nat.add_assoc]
                have HOW6 : Hid (Own Gr.cells 6 W6 V0.heap.size 37 (.slice (some ⟨g6, 0, none⟩) (m + 1) c6) (ac ++ fs (s + 1))) := by show Own _ _ _ _ _ _ _; rw [HFS.out, ← List.append_assoc]; exact HOW.out
                go_roundw
                case rel => first
                  | exact ⟨s + 1, some ⟨g6, 0, none⟩, c6, by omega, by go_num, by rw [← HLE.out], HE6, HOW6.out⟩
                  | ((repeat apply Exists.intro); exact ⟨⟨s + 1, some ⟨g6, 0, none⟩, c6, by omega, by go_num, by rw [← HLE.out], HE6, HOW6.out⟩, rfl⟩)
                case measure => simp [intOf]; omega
            · have hsn : s = N2 := by omega
              subst hsn
              have hd : decide ((s : Int) ≤ ((fullN n : Nat) : Int)) = false := decide_eq_false (by omega)
              have hd2 : decide (s ≤ fullN n) = false := decide_eq_false (by omega)
              have HM1 : Hid ((nx (i + 1)).length = m) := by show _ = _; rw [HNS1.out, HM.out]
              have HON1 : Hid (Own Gr.cells 6 wr V0.heap.size 37 (.slice sq m sc) (nx (i + 1))) := by show Own _ _ _ _ _ _ _; rw [HNS1.out]; exact HON.out
              clear hfn
              have hlnb : ln ≤ 33554432 := HLF.out
              go_wp2_with (go_at_call 110; refine (HFULL.out _).mono ?_; rintro e w' ⟨rfl, rfl⟩)
              go_roundw
              case rel => first
                | exact ⟨i + 1, sq, sc, by omega, by go_num, by rw [HM1.out], HE1, HON1.out⟩
                | ((repeat apply Exists.intro); exact ⟨⟨i + 1, sq, sc, by omega, by go_num, by rw [HM1.out], HE1, HON1.out⟩, rfl⟩)
              case measure => simp [intOf]; omega
        · have hil : i = ln := by omega
          subst hil
          have HM1 : Hid ((nx i).length = (lst (p + 1)).length) := by show _ = _; rw [HNA.out]
          have HON1 : Hid (Own Gr.cells 6 V1 w1.heap.size 37 (.slice nq (nx i).length nc) (lst (p + 1))) := by show Own _ _ _ _ _ _ _; rw [← HNA.out]; exact HON.out.mono HE.out.size
          have HEE := hide (HE.out.trans HE1.out)
          generalize (nx i).length = m at HM1 HON1 ⊢
          go_wp2_with fail
          go_roundw
          case rel => first
            | exact ⟨p + 1, nq, nc, by omega, by go_num, by rw [← HM1.out], HEE, HON1.out⟩
            | ((repeat apply Exists.intro); exact ⟨⟨p + 1, nq, nc, by omega, by go_num, by rw [← HM1.out], HEE, HON1.out⟩, rfl⟩)
          case measure => simp [intOf]; omega
    · have hpn : p = n := by omega
      subst hpn
      obtain ⟨L, hL⟩ : ∃ L, lst p = L := ⟨_, rfl⟩
      have HLF : Hid (L.length ≤ 33554432) := by show _ ≤ _; rw [← hL]; exact HLFW.out p hn
      have HLG : Hid (∀ g ∈ L, GS p g) := by show ∀ g ∈ L, _; rw [← hL]; exact HLGS.out p (Nat.le_refl _)
      rw [hL] at HOL HRES ⊢
      obtain ⟨fl, hfl⟩ : ∃ fl, fitsB ⟨op, p, num⟩ b o = fl := ⟨_, rfl⟩
      rw [hfl] at HFIT HRES
      obtain ⟨nx, hnx⟩ : ∃ nx : Nat → List Gr, nx = fun i => (L.take i).filter fl := ⟨_, rfl⟩
      have HN0 : Hid (nx 0 = []) := by rw [hnx]; rfl
      have HNY : Hid (∀ i g, L[i]? = some g → fl g = true → nx (i + 1) = nx i ++ [g]) := fun i g h h2 => by rw [hnx]; show (L.take (i + 1)).filter fl = (L.take i).filter fl ++ [g]; rw [List.take_add_one, h, Option.toList_some, List.filter_append]; simp [h2]
      have HNN : Hid (∀ i g, L[i]? = some g → fl g = false → nx (i + 1) = nx i) := fun i g h h2 => by rw [hnx]; show (L.take (i + 1)).filter fl = (L.take i).filter fl; rw [List.take_add_one, h, Option.toList_some, List.filter_append]; simp [h2]
      have HNA : Hid (nx L.length = res) := by show _ = _; rw [HRES.out, hnx]; show (L.take L.length).filter fl = _; rw [List.take_length]
      have HNL : Hid (∀ i, (nx i).length ≤ L.length) := fun i => by rw [hnx]; exact Nat.le_trans (List.length_filter_le _ _) (by rw [List.length_take]; omega)
      clear hL hfl hnx
      generalize hln : L.length = ln at HOL HLF HNA HNL ⊢
      have HLN := hide hln
      clear hln
      go_upto_region 19 with fail
      go_loopw [13, 14] (fun un vi V => ∃ (i : Nat) (q : Option Addr) (c : Nat), i ≤ ln ∧ vi = .int .i64 i ∧ un = .slice q (nx i).length c ∧ Hid (Ext V0 V) ∧ Hid (Own Gr.cells 6 V V0.heap.size 37 un (nx i))) (fun _ vi _ => ln - (intOf vi).toNat)
      case atStart => exact ⟨0, none, 0, Nat.zero_le _, rfl, by rw [HN0.out]; rfl, Ext.refl _, by rw [HN0.out]; exact Own.nil _ _ _ (fun _ => rfl)⟩
      case round =>
        clear r0 r1 rz
        obtain ⟨i, nq, nc, hi, rfl, rfl, HE1, HON⟩ := hrel
        by_cases hlti : i < ln
        · obtain ⟨g, hg⟩ : ∃ g, L[i]? = some g := ⟨_, List.getElem?_eq_getElem (by rw [HLN.out]; exact hlti)⟩
          obtain ⟨gl, rfl⟩ : ∃ gl, lq = some ⟨gl, 0, none⟩ := own_addr HOL.out (i := i) (by rw [HLN.out]; exact hlti)
          have HG := hide hg
          have HFG := hide (fun W => HFIT.out g (HLG.out g (List.mem_of_getElem? hg)) W)
          obtain ⟨r0, r1, rz⟩ := cells_rule (((HE.out.trans HE1.out).b.block _ (lt_of_heap HR.out)).trans HR.out)
          have r2 : wr.cell? ⟨w.heap.size, 2, none⟩ = some (.int .i64 num) := cells_at (((HE.out.trans HE1.out).b.block _ (lt_of_heap HR.out)).trans HR.out) 2
          obtain ⟨g0, g1, g2, g3, g4, g5, gz⟩ := own_gr (HOL.out.ext HE1.out) hg
          have hli : (i : Int) < (ln : Int) := by omega
          have HNLI := hide (HNL.out i)
          generalize hm : (nx i).length = m at HON HNLI ⊢
          have HM := hide hm
          clear hg hm
          go_upto_region 21 with fail
          go_still_tail 7, (by kernel_rfl)
          change wpList _ _ _ _ _ wr.drew
          have HED : Hid (Ext V0 wr.drew) := HE1.out.trans (Ext.refl wr).drew
          clear r0 r1 r2 rz g0 g1 g2 g3 g4 g5 gz HE1 
          have HOND : Hid (Own Gr.cells 6 wr.drew V0.heap.size 37 (.slice nq m nc) (nx i)) := HON.out.ext (Ext.refl wr).drew
          clear HON
          generalize wr.drew = w9 at HED HOND ⊢
          go_wp2_with fail
          refine (HFG.out _).mono ?_
          rintro e w2 ⟨rfl, hE2⟩
          have HE2 := hide (HED.out.trans hE2)
          have HON2 := hide (HOND.out.ext hE2)
          clear hE2 HOND HED
          have hlnb : ln ≤ 33554432 := HLF.out
          cases hf : fl g with
          | false =>
            have HN1 : Hid (nx (i + 1) = nx i) := HNN.out i g HG.out hf
            clear hf
            go_wp2_with fail
            go_roundw
            case rel => first
              | exact ⟨i + 1, nq, nc, by omega, by go_num, by rw [HN1.out, HM.out], HE2, by rw [HN1.out]; exact HON2.out⟩
              | ((repeat apply Exists.intro); exact ⟨⟨i + 1, nq, nc, by omega, by go_num, by rw [HN1.out, HM.out], HE2, by rw [HN1.out]; exact HON2.out⟩, rfl⟩)
            case measure => simp [intOf]; omega
          | true =>
            have HN1 : Hid (nx (i + 1) = nx i ++ [g]) := HNY.out i g HG.out hf
            clear hf
            obtain ⟨g0, g1, g2, g3, g4, g5, gz⟩ := own_gr (HOL.out.ext HE2.out) HG.out
            have HNEW := hide (gr_new17 w2 g)
            go_wp2_with (at_builtin; refine wpList_append1 rfl (.tmp 71) (.tmp 76) 149 rfl V0.heap.size 37 (gzn 0).v 6 48 Tryz.underlying149 gr_info17 rfl (by decide) _ (nx i) g w2.heap.size rfl (HON2.out.alloc _) rfl HNEW.out (gr_one17 g) (by have h1 := HNLI.out; rw [HM.out]; omega) (by decide) (by simp only [World.size_alloc]; have := HE2.out.size; omega) ?_; intro v' W6 hown' hg6 hf6; rw [HM.out] at hf6; obtain ⟨g6, c6, rfl, hgf6⟩ := hf6; have HOW := hide hown'; have HGW := hide hg6; clear hown' hg6 hgf6 g0 g1 g2 g3 g4 g5 gz)
            have HE6 : Hid (Ext V0 W6) := (HE2.out.alloc _).grown HGW.out (fun k hk => HON2.out.block_ge k hk)
            have HLE : Hid (m + 1 = (nx (i + 1)).length) := by
              show _ = _
              rw [HN1.out, ← HM.out]; simp
            have HOW6 : Hid (Own Gr.cells 6 W6 V0.heap.size 37 (.slice (some ⟨g6, 0, none⟩) (m + 1) c6) (nx (i + 1))) := by show Own _ _ _ _ _ _ _; rw [HN1.out]; exact HOW.out
            go_roundw
            case rel => first
              | exact ⟨i + 1, some ⟨g6, 0, none⟩, c6, by omega, by go_num, by rw [← HLE.out], HE6, HOW6.out⟩
              | ((repeat apply Exists.intro); exact ⟨⟨i + 1, some ⟨g6, 0, none⟩, c6, by omega, by go_num, by rw [← HLE.out], HE6, HOW6.out⟩, rfl⟩)
            case measure => simp [intOf]; omega
        · have hil : i = ln := by omega
          subst hil
          have HFIN : Hid (Own Gr.cells 6 wr w.heap.size 37 (.slice nq (nx i).length nc) res) := by show Own _ _ _ _ _ _ _; rw [← HNA.out]; exact HON.out.mono (HE0.out.trans HE.out).size
          have HEE := hide (HE0.out.trans (HE.out.trans HE1.out))
          generalize (nx i).length = m at HFIN ⊢
          go_wp2_with fail
          go_ret
          exact ⟨_, rfl, HFIN.out, HEE.out⟩
end Go.Proofs.YtdlhnpogddpmpaaGreat
