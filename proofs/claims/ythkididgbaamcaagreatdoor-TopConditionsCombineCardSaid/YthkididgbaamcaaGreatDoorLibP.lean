/-
  The library: the number of different values, agreement.
  Conditions: as each theorem states.
-/
import Derived.Test.YthkididgbaamcaaGreatDoorKMaps
import Derived.Test.YthkididgbaamcaaGreatDoorTaskA
namespace Go.Proofs.YthkididgbaamcaaGreatDoor
open Go.RowKit
attribute [local go_sem] Oper.semAt_some

/-- The entries of the map of the first i values. -/
def diffM (l : List Int) (i : Nat) : List (Int × Value) := (l.take i).foldl (fun m x => kput m x (.bool true)) []
/-- The number of different values. -/
def diffN (l : List Int) : Nat := (diffM l l.length).length
theorem diffM_succ (l : List Int) {i : Nat} (h : i < l.length) : diffM l (i + 1) = kput (diffM l i) (l.getD i 0) (.bool true) := by
  unfold diffM
  rw [List.take_add_one, List.foldl_append, List.getD_eq_getElem?_getD, List.getElem?_eq_getElem h]
  rfl
theorem len_kmap {o : Oper} {ops : Array Oper} {Q : Exit → Act → World → Prop} {rest : List Oper} {a : Act} {w : World} {κ : Type} {enc : κ → Value} {mt kt et : TypeId} (hu : ∀ W, (underlying mt).run Tryz.prog W = .ok (.map kt et) W)
    (hg : o.guard = none) (m : Operand) (hop : o.op = Op.call { callee := Callee.builtin Builtin.len, args := #[m], argTypes := #[mt] }) (b : Nat) (l : List (κ × Value)) (hm : a.eval m = .map (some b)) (hown : KM enc w b l)
    (hK : wpList Tryz.prog ops Q rest (a.put o.dst (.int .i64 l.length)) w) : wpList Tryz.prog ops Q (o :: rest) a w := by
  refine wpList_plain hg fun K' hK' => ?_
  unfold Oper.wp
  simp [execOp, hop, resolve, invoke, builtin, hm, hown.len hu o.type, Result.andThen]
  exact hK' _ _ hK

set_option maxRecDepth 8000 in
set_option maxHeartbeats 1000000 in
theorem different_any (l : List Int) (u : Value) (w : World) (hl : Row icells 1 w u l) :
    Calls Tryz.prog 85 #[u] w fun e w' => e = .returned (.int .i64 (diffN l)) ∧ Ext w w' := by
  obtain ⟨p, c, rfl, hc, hlen, hat⟩ := hl.int_all
  have HA := hide hat
  have hub : ∀ W, (underlying 141).run Tryz.prog W = .ok (.map 3 4) W := fun W => by kernel_rfl
  have HU := hide hub
  have HS := hide (fun i h => diffM_succ l (i := i) h)
  have HR : Hid (diffN l = (diffM l l.length).length) := rfl
  have h0 : diffM l 0 = [] := by simp [diffM]
  have hK0 : KM ienc (w.alloc (.map #[] 0)) w.heap.size (diffM l 0) := by rw [h0]; exact KM.new _ _
  generalize diffM l = f at HS HR hK0
  generalize diffN l = res at HR ⊢
  clear hl hat hub h0
  have hmm := @run_makeMap Tryz.prog
  go_enter Tryz.func85, Tryz.ntmps85
  go_wp2_with fail
  clear hmm
  have hE0 : Ext w (w.alloc (.map #[] 0)) := (Ext.refl w).alloc _
  generalize w.alloc (.map #[] 0) = w1 at hK0 hE0
  go_loopw [9] (fun x wr => ∃ i : Nat, i ≤ l.length ∧ x = .int .i64 i ∧ Hid (KM ienc wr w.heap.size (f i)) ∧ Hid (Ext w wr)) (fun x _ => l.length - (intOf x).toNat)
  case atStart => exact ⟨0, by omega, rfl, hK0, hE0⟩
  case round =>
    clear hK0 hE0
    obtain ⟨i, hi, rfl, HK, HE⟩ := hrel
    by_cases hlt : i < l.length
    · obtain ⟨b, o, rfl, hb, hat⟩ := HA.out (by omega)
      have hcx := hat i hlt _ HE.out
      clear hat
      have HSI := hide (HS.out i hlt)
      generalize l.getD i 0 = x at hcx HSI
      obtain ⟨ob, ⟨es, cl, rfl⟩, hput, hkm⟩ := HK.out.put ikey_ok HU.out x (.bool true)
      have HK2 := hide (HSI.out ▸ hkm)
      have HE2 := hide (HE.out.putObj (M := w.heap.size) (Nat.le_refl _) (.map es cl))
      clear hkm
      unfold ienc at hput
      go_wp2_with fail
      go_roundw
      case rel => exact ⟨i + 1, by omega, by go_num, HK2.out, HE2.out⟩
      case measure => simp [intOf]; omega
    · obtain rfl : i = l.length := by omega
      go_wp2_with (at_len; refine len_kmap HU.out rfl _ rfl w.heap.size _ rfl HK.out ?_)
      go_ret
      exact ⟨ret_int (by rw [HR.out]), HE.out⟩

set_option maxHeartbeats 1000000 in
theorem index_x (x : Int) (l : List Int) (u : Value) (w : World) (hl : Row icells 1 w u l) :
    Calls Tryz.prog 147 #[u, .int .i64 x] w fun e w' => e = .returned (.int .i64 (firstAt (fun i => x == l.getD i 0) l.length)) ∧ Ext w w' := by
  obtain ⟨p, c, rfl, hc, hlen, hat⟩ := hl.int_all
  have HA := hide hat
  clear hl hat
  have H1 := hide (fun k hk => firstAt_at (P := fun i => x == l.getD i 0) (n := l.length) (k := k) hk)
  have H2 := hide (firstAt_none (P := fun i => x == l.getD i 0) (n := l.length))
  generalize firstAt (fun i => x == l.getD i 0) l.length = res at H1 H2 ⊢
  generalize l.length = n at *
  generalize hf : l.getD = f at *
  clear hf
  go_enter Tryz.func147, Tryz.ntmps147
  go_wp2_with fail
  go_loopw [8] (fun y wr => ∃ i : Nat, i ≤ n ∧ y = .int .i64 i ∧ Hid (∀ j, j < i → (x == f j 0) = false) ∧ Hid (Ext w wr)) (fun x _ => n - (intOf x).toNat)
  case atStart => exact ⟨0, by omega, rfl, fun j hj => by omega, Ext.refl _⟩
  case round =>
    obtain ⟨i, hi, rfl, HJ, HE⟩ := hrel
    by_cases hlt : i < n
    · obtain ⟨b, o, rfl, hb, hat⟩ := HA.out (by omega)
      have hcx := hat i hlt _ HE.out
      clear hat
      have HF := hide (H1.out i hlt HJ.out)
      have HN : Hid ((x == f i 0) = false → ∀ j, j < i + 1 → (x == f j 0) = false) := fun h j hj => by
        by_cases e : j = i
        · subst e; exact h
        · exact HJ.out j (by omega)
      generalize f i 0 = y at hcx HF HN
      cases hd : x == y with
      | false =>
        have HR := hide (HN.out hd)
        go_wp2_with fail
        go_roundw
        case rel => exact ⟨i + 1, by omega, by go_num, HR.out, HE.out⟩
        case measure => simp [intOf]; omega
      | true =>
        have HR := hide (HF.out hd)
        go_wp2_with fail
        go_ret
        exact ⟨ret_int HR.out.symm, HE.out⟩
    · obtain rfl : i = n := by omega
      have HR := hide (H2.out HJ.out)
      go_wp2_with fail
      go_ret
      exact ⟨ret_int HR.out.symm, HE.out⟩
theorem contains_x (x : Int) (l : List Int) (u : Value) (w : World) (hl : Row icells 1 w u l) :
    Calls Tryz.prog 118 #[u, .int .i64 x] w fun e w' => e = .returned (.bool (l.any fun y => x == y)) ∧ Ext w w' := by
  have HI := hide (index_x x l u w hl)
  have HD := hide ((firstAt_any (fun i => x == l.getD i 0) l.length).trans (range_any l 0 fun y => x == y))
  obtain ⟨p, c, rfl, -⟩ := hl.int_all
  clear hl
  generalize l.any (fun y => x == y) = res at HD ⊢
  generalize firstAt (fun i => x == l.getD i 0) l.length = k at HI HD
  go_enter Tryz.func118, Tryz.ntmps118
  go_wp2_with fail
  refine HI.out.mono ?_
  rintro e w2 ⟨rfl, hE2⟩
  have hd := HD.out
  go_wp2_with fail
  go_ret
  exact ⟨rfl, hE2⟩
/-- All outputs are inputs. -/
def chosenB (li lo : List Int) : Bool := !(lo.any fun v => !(li.any fun y => v == y))
theorem chosen1_any (x : Int) (li : List Int) (ui : Value) (b : Nat) (w : World) (hb : Box w b 45 ui) (hl : Row icells 1 w ui li) :
    Calls Tryz.prog 117 #[.int .i64 x, .pointer (some ⟨b, 0, none⟩)] w fun e w' => e = .returned (.bool (!(li.any fun y => x == y))) ∧ Ext w w' := by
  have HI := hide (contains_x x li ui w hl)
  have hc := hb.cell
  obtain ⟨p, c, rfl, -⟩ := hl.int_all
  clear hl
  generalize li.any (fun y => x == y) = r at HI ⊢
  go_enter Tryz.func117, Tryz.ntmps117
  go_wp2_with fail
  refine HI.out.mono ?_
  rintro e w2 ⟨rfl, hE2⟩
  go_wp2_with fail
  go_ret
  exact ⟨rfl, hE2⟩
theorem chosen_any (li lo : List Int) (ui uo : Value) (w : World) (hi : Row icells 1 w ui li) (ho : Row icells 1 w uo lo) :
    Calls Tryz.prog 86 #[ui, uo] w fun e w' => e = .returned (.bool (chosenB li lo)) ∧ Ext w w' := by
  have hE1 : Ext w (w.alloc (.cells #[ui] 45)) := (Ext.refl w).alloc _
  have HB := hide (Box.new w 45 ui)
  have HI := hide (containsI_g (fun x => !(li.any fun y => x == y)) 117 #[.pointer (some ⟨w.heap.size, 0, none⟩)] lo uo _ (ho.ext hE1) (fun _ _ => by kernel_rfl)
    (fun x W hE => chosen1_any x li ui w.heap.size W (HB.out.ext hE) (hi.ext (hE1.trans hE))))
  have HD : Hid (chosenB li lo = !(lo.any fun v => !(li.any fun y => v == y))) := rfl
  have HE1 := hide hE1
  obtain ⟨p, c, rfl, -⟩ := hi.int_all
  obtain ⟨q, d, rfl, -⟩ := ho.int_all
  clear hi ho hE1
  generalize lo.any (fun v => !(li.any fun y => v == y)) = r at HI HD
  generalize chosenB li lo = res at HD ⊢
  go_enter Tryz.func86, Tryz.ntmps86
  go_wp2_with fail
  refine HI.out.mono ?_
  rintro e w2 ⟨rfl, hE2⟩
  go_wp2_with fail
  go_ret
  exact ⟨ret_bool HD.out.symm, HE1.out.trans hE2⟩
/-- At most k (and one at least) different outputs, all of them inputs. -/
def agreeB (k : Int) (li lo : List Int) : Bool := decide ((diffN lo : Int) ≤ if k < 1 then 1 else k) && chosenB li lo
set_option maxHeartbeats 1000000 in
theorem agree1_any (k : Int) (li lo : List Int) (ui uo : Value) (b : Nat) (w : World) (hb : Box w b 3 (.int .i64 k)) (hi : Row icells 1 w ui li) (ho : Row icells 1 w uo lo) :
    Calls Tryz.prog 84 #[ui, uo, .pointer (some ⟨b, 0, none⟩)] w fun e w' => e = .returned (.bool (agreeB k li lo)) ∧ Ext w w' := by
  have HD := hide (fun W (hE : Ext w W) => different_any lo uo W (ho.ext hE))
  have HC := hide (fun W (hE : Ext w W) => chosen_any li lo ui uo W (hi.ext hE) (ho.ext hE))
  have hc := hb.cell
  have hz := hb.lt
  have HR : Hid (agreeB k li lo = (decide ((diffN lo : Int) ≤ if k < 1 then 1 else k) && chosenB li lo)) := rfl
  obtain ⟨p, c, rfl, -⟩ := hi.int_all
  obtain ⟨q, d, rfl, -⟩ := ho.int_all
  clear hi ho hb
  generalize diffN lo = m at HD HR
  generalize chosenB li lo = r at HC HR
  generalize agreeB k li lo = res at HR ⊢
  go_enter Tryz.func84, Tryz.ntmps84
  go_wp2_with fail
  cases hle : decide ((m : Int) ≤ if k < 1 then 1 else k) with
  | false =>
    have HR := hide (HR.out.trans (by rw [hle, Bool.false_and]))
    refine wp_region_ext (by kernel_rfl) (by kernel_rfl) ?_
    repeat (go_big_quiet_step ((first | (go_at_call 85; exact Calls.ext_of (HD.out _ (ExtOf.h _))) | (go_at_call 86; exact Calls.ext_of (HC.out _ (ExtOf.h _))))))
    refine wpQuiet_nil ?_
    rintro w9 ⟨⟨_, hE9⟩, rfl⟩
    go_wp2_with fail
    all_goals go_ret
    all_goals exact ⟨ret_bool HR.out.symm, hE9⟩
  | true =>
    have HR := hide (HR.out.trans (by rw [hle, Bool.true_and]))
    refine wp_region_ext (by kernel_rfl) (by kernel_rfl) ?_
    repeat (go_big_quiet_step ((first | (go_at_call 85; exact Calls.ext_of (HD.out _ (ExtOf.h _))) | (go_at_call 86; exact Calls.ext_of (HC.out _ (ExtOf.h _))))))
    refine wpQuiet_nil ?_
    rintro w9 ⟨⟨_, hE9⟩, rfl⟩
    go_wp2_with fail
    all_goals go_ret
    all_goals exact ⟨ret_bool HR.out.symm, hE9⟩
theorem between_any (n lo hi : Int) (w : World) : Calls Tryz.prog 87 #[.int .i64 n, .int .i64 lo, .int .i64 hi] w fun e w' => e = .returned (.bool (decide (lo ≤ n) && decide (n ≤ hi))) ∧ w' = w := by
  cases h1 : decide (lo ≤ n) with
  | false =>
    have h1' : ¬ lo ≤ n := of_decide_eq_false h1
    go_enter Tryz.func87, Tryz.ntmps87
    go_wp2_with fail
    go_ret
    exact ⟨rfl, rfl⟩
  | true =>
    have h1' : lo ≤ n := of_decide_eq_true h1
    cases h2 : decide (n ≤ hi) with
    | false =>
      have h2' : ¬ n ≤ hi := of_decide_eq_false h2
      go_enter Tryz.func87, Tryz.ntmps87
      go_wp2_with fail
      go_ret
      exact ⟨rfl, rfl⟩
    | true =>
      have h2' : n ≤ hi := of_decide_eq_true h2
      go_enter Tryz.func87, Tryz.ntmps87
      go_wp2_with fail
      go_ret
      exact ⟨rfl, rfl⟩
end Go.Proofs.YthkididgbaamcaaGreatDoor
