/-
  The reference's Oblivious.
  Conditions: as each theorem states.
-/
import Derived.Test.YtjgkgcjmcpgiaaaTrimRef2
import Derived.Test.YtjgkgcjmcpgiaaaObl2
namespace Go.Proofs.Ytjgkgcjmcpgiaaa
open Go.RowKit
attribute [local go_sem] Oper.semAt_some

theorem reach_zero (A : Adv) : reachB A 0 = true := reachB_iff.2 .zero
theorem getD_map {α β : Type} (f : α → β) (l : List α) (k : Nat) (d : α) (e : β) (h : k < l.length) : (l.map f).getD k e = f (l.getD k d) := by
  rw [List.getD_eq_getElem?_getD, List.getElem?_map, List.getD_eq_getElem?_getD, List.getElem?_eq_getElem h]; rfl
theorem trim_at {A : Adv} {k : Nat} (hk : k < (trimA A).L) : ∃ s, s < A.L ∧ reachB A s = true ∧ (trimA A).st.getD k [] = (A.st.getD s []).map (trimMv A) := by
  have hk' : k < ((List.range A.L).filter (reachB A)).length := by
    have : (trimA A).L = ((List.range A.L).filter (reachB A)).length := by show (trimSt A A.L).length = _; unfold trimSt; rw [List.length_map]
    omega
  have hm := List.getElem_mem hk'
  rw [List.mem_filter, List.mem_range] at hm
  refine ⟨_, hm.1, hm.2, ?_⟩
  show (trimSt A A.L).getD k [] = _
  unfold trimSt
  rw [getD_map _ _ _ 0 [] hk', getElem_getD' hk']
theorem trim_has {A : Adv} {s : Nat} (hs : s < A.L) (hr : reachB A s = true) : ∃ k, k < (trimA A).L ∧ (trimA A).st.getD k [] = (A.st.getD s []).map (trimMv A) := by
  have hm : s ∈ (List.range A.L).filter (reachB A) := by rw [List.mem_filter, List.mem_range]; exact ⟨hs, hr⟩
  obtain ⟨k, hk, he⟩ := List.getElem_of_mem hm
  refine ⟨k, ?_, ?_⟩
  · show k < (trimSt A A.L).length
    unfold trimSt; rw [List.length_map]; exact hk
  · show (trimSt A A.L).getD k [] = _
    unfold trimSt
    rw [getD_map _ _ _ 0 [] hk, getElem_getD' hk, he]
theorem trim_zero {A : Adv} (hL : 1 ≤ A.L) : 0 < (trimA A).L ∧ (trimA A).st.getD 0 [] = (A.st.getD 0 []).map (trimMv A) := by
  obtain ⟨n, hn⟩ : ∃ n, A.L = n + 1 := ⟨A.L - 1, by omega⟩
  have e : (List.range A.L).filter (reachB A) = 0 :: ((List.range n).map Nat.succ).filter (reachB A) := by
    rw [hn, List.range_succ_eq_map, List.filter_cons, if_pos (reach_zero A)]
  have e2 : (trimA A).st = (A.st.getD 0 []).map (trimMv A) :: (((List.range n).map Nat.succ).filter (reachB A)).map fun s => (A.st.getD s []).map (trimMv A) := by
    show trimSt A A.L = _
    unfold trimSt
    rw [e, List.map_cons]
  refine ⟨?_, ?_⟩
  · show 0 < (trimA A).st.length
    rw [e2]; simp
  · rw [e2]; rfl
theorem rdsEq_trim (A : Adv) (a b : List Mv) : rdsEq (a.map (trimMv A)) (b.map (trimMv A)) = rdsEq a b := by
  unfold rdsEq
  rw [List.map_map, List.map_map]
  rfl
theorem rdsEq_comm (a b : List Mv) : rdsEq a b = rdsEq b a := by unfold rdsEq; exact decide_eq_decide.2 ⟨Eq.symm, Eq.symm⟩
def oblT (T : Adv) : Bool := (List.range T.L).all fun k => rdsEq (T.st.getD k []) (T.st.getD 0 [])
theorem oblT_eq {A : Adv} (hL : 1 ≤ A.L) : oblT (trimA A) = oblB A := by
  obtain ⟨_, hz⟩ := trim_zero hL
  cases hb : oblB A with
  | true =>
    unfold oblT
    rw [List.all_eq_true]
    intro k hk
    obtain ⟨s, hs, hr, he⟩ := trim_at (List.mem_range.1 hk)
    rw [he, hz, rdsEq_trim, rdsEq_comm]
    unfold oblB at hb
    rw [List.all_eq_true] at hb
    have := hb s (List.mem_range.2 hs)
    rw [hr] at this
    simpa using this
  | false =>
    unfold oblB at hb
    rw [List.all_eq_false] at hb
    obtain ⟨s, hs, hx⟩ := hb
    simp only [Bool.not_eq_true, Bool.or_eq_false_iff, Bool.not_eq_false'] at hx
    obtain ⟨k, hk, he⟩ := trim_has (List.mem_range.1 hs) hx.1
    unfold oblT
    rw [List.all_eq_false]
    refine ⟨k, List.mem_range.2 hk, ?_⟩
    rw [he, hz, rdsEq_trim, rdsEq_comm, hx.2]
    decide
theorem oblT_bad {T : Adv} {k : Nat} (hk : k < T.L) (h : rdsEq (T.st.getD k []) (T.st.getD 0 []) = false) : oblT T = false := by
  unfold oblT; rw [List.all_eq_false]; exact ⟨k, List.mem_range.2 hk, by rw [h]; decide⟩
theorem oblT_ok {T : Adv} (h : ∀ k, k < T.L → rdsEq (T.st.getD k []) (T.st.getD 0 []) = true) : oblT T = true := by
  unfold oblT; rw [List.all_eq_true]; exact fun k hk => h k (List.mem_range.1 hk)

set_option maxHeartbeats 4000000 in
theorem roblivious_any (A : Adv) (v : Value) (w : World) (hA : AdvRep w v A) :
    Calls Try.prog 28 #[v] w fun e w' => e = .returned (.tuple #[.bool (oblS A).1, .int .i64 (oblS A).2]) ∧ Ext w w' := by
  have HC := hide (fun W (hE : Ext w W) => racheck_any A v W (hA.ext hE))
  have HT := hide (fun W (hE : Ext w W) h0 => rtrimmed_any A v W (hA.ext hE) h0)
  obtain ⟨p, c, rfl, hc, hl, hat⟩ := hA.all_
  clear hA hat
  have hE0 : Ext w (w.alloc (.cells #[.int .i64 A.n, .slice p A.L c] 24)) := (Ext.refl w).alloc _
  generalize hres : oblS A = res
  obtain ⟨r1, r2⟩ := res
  unfold oblS at hres
  by_cases h1 : achk A = 0
  · rw [if_pos h1] at hres
    have hHC := HC.out
    rw [h1] at hHC
    have HC := hide hHC
    have HT := hide (fun W hE => HT.out W hE h1)
    injection hres with hr1 hr2
    have hL := (achk_zero h1).2.2.1
    rw [← oblT_eq hL] at hr1
    have h256 : (trimA A).L ≤ 256 := by have := trimSt_len A A.L; have := (achk_zero h1).2.2.2.1; show (trimSt A A.L).length ≤ 256; omega
    have hpos := (trim_zero hL).1
    subst hr2
    clear hHC h1 hL
    go_enter Try.func28, Try.ntmps28
    go_wp2_with fail
    refine (HC.out _ hE0).mono ?_
    rintro e w1 ⟨rfl, hE⟩
    have hEw := hE0.trans hE
    obtain ⟨hc1, hf1⟩ := hE.rules
    go_wp2_with fail
    refine (HT.out _ hEw).mono ?_
    rintro e w2 ⟨_, rfl, ⟨q, rfl, hC⟩, hE2⟩
    have hTR : AdvRep w2 (.agg #[.int .i64 A.n, q]) (trimA A) := Coll.adv (A := trimA A) hC (by have : (trimA A).st.length = (trimA A).L := rfl; omega)
    obtain ⟨tp, tc, hte, _, _, hTA⟩ := hTR.all_
    injection hte with hte
    injection hte with hte
    injection hte with _ hte
    injection hte with hte _
    subst hte
    have hEw2 := hEw.trans hE2
    have HBAD := hide (fun k hk h => (hr1.symm.trans (oblT_bad (T := trimA A) (k := k) hk h)))
    have HOK := hide (fun h => (hr1.symm.trans (oblT_ok (T := trimA A) h)))
    have HTA := hide hTA
    have HTR := hide hTR
    clear hTR hTA hC hE hE2 hr1 hc1 hf1
    generalize trimA A = T at HBAD HOK HTA HTR hpos h256 ⊢
    clear HT
    go_wp2_with fail
    have hE3 : Ext w2 (w2.alloc (.cells #[.int .i64 A.n, .slice tp T.L tc] 24)) := (Ext.refl _).alloc _
    have hb3 : ∀ W, Ext (w2.alloc (.cells #[.int .i64 A.n, .slice tp T.L tc] 24)) W → W.cell? ⟨w2.heap.size, 1, none⟩ = some (.slice tp T.L tc) := fun W hE => by rw [hE.cell (by simp), cell_new]; rfl
    have HB3 := hide hb3
    have hz3 : w2.heap.size < (w2.alloc (.cells #[.int .i64 A.n, .slice tp T.L tc] 24)).heap.size := by simp
    clear hb3
    generalize w2.alloc (.cells #[.int .i64 A.n, .slice tp T.L tc] 24) = w3 at hE3 HB3 hz3 ⊢
    obtain ⟨b, o, rfl, hb, hat⟩ := HTA.out hpos
    have HAT := hide hat
    obtain ⟨q0, d0, hx0, hld0, hml0, _, hmv0⟩ := hat 0 hpos
    have HM0 := hide hmv0
    clear hat hmv0 HTA
    have hEw3 := hEw2.trans hE3
    rw [Nat.add_zero] at hx0
    go_loopw [6, 7] (fun x _ wr => ∃ s : Nat, s ≤ T.L ∧ x = .int .i64 s ∧ (∀ k, k < s → rdsEq (T.st.getD k []) (T.st.getD 0 []) = true) ∧ Ext w3 wr) (fun x _ _ => T.L - (intOf x).toNat)
    case atStart => exact ⟨0, by omega, rfl, fun k hk => by omega, Ext.refl _⟩
    case round =>
      obtain ⟨s, hs, rfl, hj, hE⟩ := hrel
      have HJ := hide hj
      clear hj
      have hr1 := HB3.out wr hE
      have hzz : w2.heap.size < wr.heap.size := Nat.lt_of_lt_of_le hz3 hE.size
      have hEr := hE3.trans hE
      have hEwr := hEw3.trans hE
      by_cases hlt : s < T.L
      · obtain ⟨q1, d1, hx, hld, hml, _, hmv⟩ := HAT.out s hlt
        have HM1 := hide hmv
        clear hmv
        have HNX : Hid (rdsEq (T.st.getD s []) (T.st.getD 0 []) = true → ∀ k, k < s + 1 → rdsEq (T.st.getD k []) (T.st.getD 0 []) = true) := fun h k hk => by
          by_cases e : k = s
          · subst e; exact h
          · exact HJ.out k (by omega)
        have HBS := hide (fun h => HBAD.out s hlt h)
        have hpd : decide (0 < T.L) = true := decide_eq_true hpos
        by_cases hlen : T.len s = T.len 0
        · have HALL : Hid ((∀ i, i < T.len s → req (T.mv s i).r (T.mv 0 i).r = true) → rdsEq (T.st.getD s []) (T.st.getD 0 []) = true) := fun h => rdsEq_all hlen h
          have HONE : Hid (∀ i, i < T.len s → req (T.mv s i).r (T.mv 0 i).r = false → rdsEq (T.st.getD s []) (T.st.getD 0 []) = false) := fun i hi h => rdsEq_at hi (by have : T.len 0 = (T.st.getD 0 []).length := rfl; omega) h
          generalize T.mv s = f1 at *
          generalize T.mv 0 = f2 at *
          generalize T.len s = l1 at *
          generalize T.len 0 = l2 at *
          subst hlen
          go_wp2_with fail
          refine wp_region_ext (by kernel_rfl) (by kernel_rfl) ?_
          repeat (go_big_quiet_step (fail))
          refine wpQuiet_nil ?_
          rintro w9 ⟨⟨_, hE9⟩, rfl⟩
          have hE8 := hE.trans hE9
          clear hr1 hE9 hE hEr hEwr
          go_wp2_with fail
          go_loopw [7] (fun x wr => ∃ i : Nat, i ≤ l1 ∧ x = .int .i64 i ∧ (∀ i', i' < i → req (f1 i').r (f2 i').r = true) ∧ Ext w3 wr) (fun x _ => l1 - (intOf x).toNat)
          case atStart => exact ⟨0, by omega, rfl, fun s' hs' => by omega, hE8⟩
          case round =>
            obtain ⟨i, hi, rfl, hj, hE⟩ := hrel
            have HJ2 := hide hj
            clear hj
            have hr1 := HB3.out wr hE
            have hzz : w2.heap.size < wr.heap.size := Nat.lt_of_lt_of_le hz3 hE.size
            have hEr := hE3.trans hE
            have hEwr := hEw3.trans hE
            by_cases hlt2 : i < l1
            · obtain ⟨b3, o3, rfl, hb3, hat⟩ := HM1.out (by omega)
              obtain ⟨b4, o4, rfl, hb4, hat2⟩ := HM0.out (by omega)
              obtain ⟨x0, x1, x2, x3, x4, x5, x6, x7⟩ := hat i hlt2
              obtain ⟨y0, y1, y2, y3, y4, y5, y6, y7⟩ := hat2 i hlt2
              clear hat hat2
              have HN2 : Hid (req (f1 i).r (f2 i).r = true → ∀ i', i' < i + 1 → req (f1 i').r (f2 i').r = true) := fun h j hj => by
                by_cases e : j = i
                · subst e; exact h
                · exact HJ2.out j (by omega)
              have HO2 := hide (HONE.out i hlt2)
              generalize f1 i = m at x0 x1 x2 x3 x4 x5 x6 x7 HN2 HO2
              generalize f2 i = m' at y0 y1 y2 y3 y4 y5 y6 y7 HN2 HO2
              obtain ⟨⟨⟨n, a0, b0, c0, d0, e0⟩, f⟩, t⟩ := m
              obtain ⟨⟨⟨n', a0', b0', c0', d0', e0'⟩, f'⟩, t'⟩ := m'
              have heq := neq_round n a0 b0 c0 d0 e0 f n' a0' b0' c0' d0' e0' f'
              dsimp only at x0 x1 x2 x3 x4 x5 x6 x7 y0 y1 y2 y3 y4 y5 y6 y7 HN2 HO2
              generalize req ⟨⟨n, a0, b0, c0, d0, e0⟩, f⟩ ⟨⟨n', a0', b0', c0', d0', e0'⟩, f'⟩ = g at heq HN2 HO2
              go_wp2_with fail
              refine wp_region_ext (by kernel_rfl) (by kernel_rfl) ?_
              repeat (go_big_quiet_step (fail))
              refine wpQuiet_nil ?_
              rintro w9 ⟨⟨_, hE9⟩, rfl⟩
              clear heq
              cases g
              · have HR := hide (HBS.out (HO2.out rfl))
                go_wp2
                go_ret2
                exact ⟨ret_tupb (by rw [← HR.out]), hEwr.trans hE9⟩
              · have HR := hide (HN2.out rfl)
                go_wp2
                go_roundw
                case rel => exact ⟨i + 1, by omega, by go_num, HR.out, hE.trans hE9⟩
                case measure => simp [intOf]; omega
            · obtain rfl : i = l1 := by omega
              have HR := hide (HNX.out (HALL.out HJ2.out))
              go_wp2_with fail
              go_roundw
              case rel => exact ⟨s + 1, by omega, by go_num, HR.out, hE⟩
              case measure => simp [intOf]; omega
        · have HR := hide (HBS.out (rdsEq_len hlen))
          have hb9 : ((T.len s : Int) != (T.len 0 : Int)) = true := by simp; omega
          clear hlen
          go_wp2_with fail
          refine wp_region_ext (by kernel_rfl) (by kernel_rfl) ?_
          repeat (go_big_quiet_step (fail))
          refine wpQuiet_nil ?_
          rintro w9 ⟨⟨_, hE9⟩, rfl⟩
          go_wp2
          go_ret2
          exact ⟨ret_tupb (by rw [← HR.out]), hEwr.trans hE9⟩
      · obtain rfl : s = T.L := by omega
        have HR := hide (HOK.out HJ.out)
        go_wp2_with fail
        go_ret2
        exact ⟨ret_tupb (by rw [← HR.out]), hEwr⟩
  · rw [if_neg h1] at hres
    have HR := hide hres
    have hb : (achk A != 0) = true := by simp [h1]
    clear h1 HT hres
    generalize achk A = ck at *
    go_enter Try.func28, Try.ntmps28
    go_wp2_with fail
    refine (HC.out _ hE0).mono ?_
    rintro e w1 ⟨rfl, hE⟩
    go_wp2_with fail
    go_ret2
    exact ⟨ret_tupb HR.out, hE0.trans hE⟩
end Go.Proofs.Ytjgkgcjmcpgiaaa
