/-
  The program's layer 17 (failure): Crash and Send.
  Conditions: as each theorem states.
-/
import Derived.Test.YtnhgdjiljjpgmaaFailC
import Derived.Test.YtnhgdjiljjpgmaaFailB
namespace Go.Proofs.Ytnhgdjiljjpgmaa
open Go.RowKit
attribute [local go_sem] Oper.semAt_some

theorem SeqY.weaken {P : Program} {f : Nat} {lb : Array Value} {Init : World → Prop} {O0 : Nat → Prop} {D D' : World → Prop} {n : Nat} {X : Nat → (Nat → Prop) → Array Value → World → Prop} (h : SeqY P f lb Init O0 D n X) (hD : ∀ W, D' W → D W) : SeqY P f lb Init O0 D' n X :=
  fun l J Jx W hJD => h l J Jx W fun i O W hj => hD W (hJD i O W hj)
theorem enters_msteps : ∀ args w, (callFunc 48 args).run Try.prog w = .ok (.enter 48 args) w := fun _ _ => by kernel_rfl
/-! ### Plain -/
theorem betw_ne (low high : Nat) : betwL low high ≠ [] := fun h => by
  have h1 := congrArg List.length h
  unfold betwL at h1
  rw [List.length_map, List.length_nil] at h1
  have := subs_pos (andNot high low)
  omega
theorem each_ne {R : Nat → List Nat} {fits : Gr → Bool} (hR : ∀ p, R p ≠ []) (hf : ∀ g, fits g = true) : ∀ k p g, eachG R fits k p g ≠ []
  | 0, p, g => by unfold eachG; rw [if_pos (hf g)]; simp
  | k + 1, p, g => by
    unfold eachG
    obtain ⟨x, l, hx⟩ := List.exists_cons_of_ne_nil (hR p)
    rw [hx, List.flatMap_cons]
    have := each_ne hR hf k (p + 1) (g.set p (x : Int))
    simp [this]
theorem andNot_self (b : Nat) : andNot b b = 0 := by unfold andNot; rw [Nat.and_self, Nat.sub_self]
theorem eachN_self (n b : Nat) (ok : Nat → Bool) : eachN n b b ok = true := by
  unfold eachN
  rw [andNot_self, List.all_eq_true]
  intro x _
  simp [bit]
theorem crash_ne (n f b : Nat) : graphsM (crashM n f) b b ≠ [] := each_ne (fun p => by show (if bit b p = true then _ else _) ≠ _; split <;> exact betw_ne _ _) (fun _ => rfl) _ _ _
theorem send_ne (n f b : Nat) : graphsM (sendM n f) b b ≠ [] := each_ne (fun _p => betw_ne _ _) (fun _ => eachN_self _ _ _) _ _ _
theorem recv_ne (n f b : Nat) : graphsM (recvM n f) b b ≠ [] := each_ne (fun p => by show (if bit b p = true then _ else _) ≠ _; split <;> exact betw_ne _ _) (fun _ => eachN_self _ _ _) _ _ _
theorem omit_ne (n f b : Nat) : graphsM (omitM n f) b b ≠ [] := each_ne (fun p => by show (if bit b p = true then _ else _) ≠ _; split <;> exact betw_ne _ _) (fun _ => eachN_self _ _ _) _ _ _
theorem steps_mem {m : Mdl} {b : Nat} {s : Stp17} (h : s ∈ stepsM m b) : ∃ more ∈ subsL (andNot (fullN m.n) b), ∃ g ∈ graphsM m b (b ||| more), ¬ m.f < sizeN (b ||| more) ∧ s = (⟨g, (b ||| more : Nat)⟩, b ||| more) := by
  obtain ⟨more, hm, hs⟩ := List.mem_flatMap.1 h
  split at hs
  · cases hs
  · next hn =>
    obtain ⟨g, hg, rfl⟩ := List.mem_map.1 hs
    exact ⟨more, hm, g, hg, hn, rfl⟩
theorem zero_sub (set : Nat) : 0 ∈ subsL set := List.mem_filter.2 ⟨List.mem_range.2 (by omega), by simp⟩
/-- A model's steps, as build takes them. -/
theorem mdl_bask {m : Mdl} {rid fid : Nat} {rlb flb : Array Value} {w : World} {DD : World → Prop} (h1 : 1 ≤ m.n) (h5 : m.n ≤ 5) (hDD : ∀ W, Ext w W → DD W)
    (H : ∀ b o, b < 2 ^ m.n → o < 2 ^ m.n → MAsk m.n m.f b o rid fid rlb flb (fun p => m.rows p b o) (fun g => m.fits g b o) DD) (hne : ∀ b, graphsM m b b ≠ []) :
    BAsk w 48 #[mdlV m.n m.f rid rlb fid flb] #[] (stepsM m) (fun k => k < 2 ^ m.n ∧ sizeN k ≤ m.f) where
  ef := enters_msteps
  call := fun key V hk hE => (msteps_any m.n m.f key rid fid rlb flb V).mono (by
    rintro e V' ⟨rfl, hm, hn, hE'⟩
    have z1 := lt_of_heap hm
    have z2 := lt_of_heap hn
    refine ⟨_, _, _, _, rfl, enters_msteps1, (msteps_seq h1 h5 hk.1 (fun more hmo => H key _ hk.1 (more_lt hk.1 hmo)) V.heap.size (V.heap.size + 1)).weaken hDD, fun W hW => ⟨(hW.b.block _ z1).trans hm, hn.ext hW⟩, ?_, hE'⟩
    rintro k (rfl | rfl)
    · exact ⟨Nat.le_refl _, z1⟩
    · exact ⟨by omega, z2⟩)
  zero := ⟨Nat.two_pow_pos _, by have : sizeN 0 = 0 := by decide
                                 omega⟩
  next := fun key hk s hs => by
    obtain ⟨more, hm, g, hg, hn, rfl⟩ := steps_mem hs
    exact ⟨more_lt hk.1 hm, by show sizeN (key ||| more) ≤ m.f; omega⟩
  few := fun key hk => by have := pow32_le h5; omega
  ne := fun key hk h => by
    have h2 := hne key
    obtain ⟨g, l, hg⟩ := List.exists_cons_of_ne_nil h2
    have : ((⟨g, (key ||| 0 : Nat)⟩, key ||| 0) : Stp17) ∈ stepsM m key := by
      refine List.mem_flatMap.2 ⟨0, zero_sub _, ?_⟩
      rw [Nat.or_zero, if_neg (by omega), hg]
      simp
    rw [h] at this
    cases this
  one := fun key hk x hx y hy h => by
    obtain ⟨m1, -, g1, -, -, rfl⟩ := steps_mem hx
    obtain ⟨m2, -, g2, -, -, rfl⟩ := steps_mem hy
    injection h with hg hf
    have hf : key ||| m1 = key ||| m2 := by exact_mod_cast hf
    rw [hg, hf]
theorem results_adv1 {fn : Func} {a b : Tmp} (h : fn.results = #[.cell a 29, .tmp b]) {tmps : Array Value} {w : World} {p : Nat} {n : Int} {e sv : Value} (ha : tmps.getD a undef = .pointer (some ⟨p, 0, none⟩)) (hb : tmps.getD b undef = e)
    (hp : w.heap[p]? = some (.cells #[.int .i64 n, sv] 29 (0, 0))) : (results fn tmps).run Try.prog w = .ok (.tuple #[.agg #[.int .i64 n, sv], e]) w := by
  rw [Array.getD_eq_getD_getElem?] at ha hb
  have p0 : w.cell? ⟨p, 0, none⟩ = some (.int .i64 n) := by rw [cell_of_row _ _ _ _ _ _ hp]; rfl
  have p1 : w.cell? ⟨p, 1, none⟩ = some sv := by rw [cell_of_row _ _ _ _ _ _ hp]; rfl
  simp [results, h, ha, hb, go_sem, p0, p1]
theorem pof_bad {n f : Int} {rid fid : Nat} {rlb flb : Array Value} (h : n < 1 ∨ 5 < n ∨ f < 0 ∨ n < f) (w : World) : Calls Try.prog 19 #[.agg #[.int .i64 n, .int .i64 f, .func (.func rid) #[] rlb, .func (.func fid) #[] flb]] w fun e w' =>
    e = .returned (.tuple #[.agg #[.int .i64 0, .slice none 0 0], .int .i64 2]) ∧ Ext w w' := by
  have hE : Hid (Ext w ((w.alloc (.cells #[.int .i64 n, .int .i64 f, .func (.func rid) #[] rlb, .func (.func fid) #[] flb] 54)).alloc (.cells #[.int .i64 0, .slice none 0 0] 29))) := ((Ext.refl w).alloc _).alloc _
  have hp : Hid (((w.alloc (.cells #[.int .i64 n, .int .i64 f, .func (.func rid) #[] rlb, .func (.func fid) #[] flb] 54)).alloc (.cells #[.int .i64 0, .slice none 0 0] 29)).heap[w.heap.size + 1]? = some (.cells #[.int .i64 0, .slice none 0 0] 29 (0, 0))) := by
    show _ = _
    have := heap_alloc_new (w.alloc (.cells #[.int .i64 n, .int .i64 f, .func (.func rid) #[] rlb, .func (.func fid) #[] flb] 54)) (.cells #[.int .i64 0, .slice none 0 0] 29)
    rwa [World.size_alloc] at this
  by_cases hn : n < 1 ∨ 5 < n
  · go_enter Try.func19, Try.ntmps19
    go_wp2_with fail
    all_goals first
      | exact bodyPost_ret (results_adv1 rfl rfl rfl hp.out) rfl ⟨rfl, hE.out⟩
      | (exfalso; omega)
  · have h1 : decide (n < 1) = false := decide_eq_false (by omega)
    have h2 : decide (5 < n) = false := decide_eq_false (by omega)
    have h3 : f < 0 ∨ n < f := by omega
    clear h hn
    go_enter Try.func19, Try.ntmps19
    go_wp2_with fail
    all_goals first
      | exact bodyPost_ret (results_adv1 rfl rfl rfl hp.out) rfl ⟨rfl, hE.out⟩
      | trace_state
theorem pof_ok {m : Mdl} {rid fid : Nat} {rlb flb : Array Value} {DD : World → Prop} (h1 : 1 ≤ m.n) (h5 : m.n ≤ 5) (hf : m.f ≤ m.n) (w : World) (hDD : ∀ W, Ext w W → DD W)
    (H : ∀ b o, b < 2 ^ m.n → o < 2 ^ m.n → MAsk m.n m.f b o rid fid rlb flb (fun p => m.rows p b o) (fun g => m.fits g b o) DD) (hne : ∀ b, graphsM m b b ≠ []) :
    Calls Try.prog 19 #[mdlV m.n m.f rid rlb fid flb] w fun e w' => ∃ v, e = .returned (.tuple #[v, .int .i64 (buildA (fun k => sortR (stepsM m k)) m.n).2]) ∧ AdvC w.heap.size w' v (buildA (fun k => sortR (stepsM m k)) m.n).1 ∧ Ext w w' := by
  obtain ⟨w2, hw2⟩ : ∃ w2, (w.alloc (.cells #[.int .i64 m.n, .int .i64 m.f, .func (.func rid) #[] rlb, .func (.func fid) #[] flb] 54)).alloc (.cells #[.int .i64 0, .slice none 0 0] 29) = w2 := ⟨_, rfl⟩
  have hE : Ext w w2 := by rw [← hw2]; exact ((Ext.refl w).alloc _).alloc _
  have hp : w2.heap[w.heap.size + 1]? = some (.cells #[.int .i64 0, .slice none 0 0] 29 (0, 0)) := by
    rw [← hw2]
    have := heap_alloc_new (w.alloc (.cells #[.int .i64 m.n, .int .i64 m.f, .func (.func rid) #[] rlb, .func (.func fid) #[] flb] 54)) (.cells #[.int .i64 0, .slice none 0 0] 29)
    rwa [World.size_alloc] at this
  have HC := hide (pbuild_any (n := m.n) w2 (mdl_bask h1 h5 (fun W hW => hDD W (hE.trans hW)) H hne))
  have HE := hide hE
  have HP := hide hp
  have HW := hide hw2
  have hn1 : ¬ ((m.n : Int) < 1) := by omega
  have hn5 : ¬ (5 < (m.n : Int)) := by omega
  have hf0 : ¬ ((m.f : Int) < 0) := by omega
  have hfn : ¬ (m.n < m.f) := by omega
  clear hE hp hw2 hDD H hne
  generalize buildA (fun k => sortR (stepsM m k)) m.n = res at HC ⊢
  go_enter Try.func19, Try.ntmps19
  go_wp2_with fail
  rw [HW.out]
  refine HC.out.mono ?_
  rintro e w3 ⟨v, rfl, hv, hE3⟩
  obtain ⟨sv, rfl, hco, -⟩ := id hv
  obtain ⟨sq, sc, rfl⟩ := hco.sl
  clear hco
  have hp3 := (hE3.b.block _ (lt_of_heap HP.out)).trans HP.out
  have a0 : w3.cell? ⟨w.heap.size + 1, 0, none⟩ = some (.int .i64 0) := cells_at hp3 0
  have a1 : w3.cell? ⟨w.heap.size + 1, 1, none⟩ = some (.slice none 0 0) := cells_at hp3 1
  have af : w3.frozen? ⟨w.heap.size + 1, 0, none⟩ = false := frozen_of hp3
  have af1 : w3.frozen? ⟨w.heap.size + 1, 1, none⟩ = false := frozen_of hp3
  have az := lt_of_heap hp3
  have HP3 := hide hp3
  have HV := hide hv
  have HE3 := hide (HE.out.trans hE3)
  have HZ2 : Hid (w.heap.size ≤ w2.heap.size) := HE.out.size
  clear hp3 hv hE3
  go_wp2_with fail
  refine bodyPost_ret (results_adv1 rfl rfl rfl (heap_set (heap_set HP3.out _) _)) rfl ⟨_, rfl, (HV.out.stored2 HP3.out).mono HZ2.out, (HE3.out.setCell (p := ⟨w.heap.size + 1, 0, none⟩) (by show w.heap.size ≤ w.heap.size + 1; omega) _).setCell (p := ⟨w.heap.size + 1, 1, none⟩) (by show w.heap.size ≤ w.heap.size + 1; omega) _⟩
end Go.Proofs.Ytnhgdjiljjpgmaa

namespace Go.Proofs.Ytnhgdjiljjpgmaa
open Go.RowKit
attribute [local go_sem] Oper.semAt_some

/-- What the program returns for a model of faulty processes. -/
def mdlA (op : Nat) (n f : Int) : Adv × Int := if n < 1 ∨ 5 < n ∨ f < 0 ∨ n < f then (⟨0, []⟩, 2) else buildA (fun k => sortR (stepsM (mdlOf ⟨op, n.toNat, f.toNat⟩) k)) n.toNat
theorem mdlOf_nf {op n f : Nat} (hop : 1 ≤ op ∧ op ≤ 4) : (mdlOf ⟨op, n, f⟩).n = n ∧ (mdlOf ⟨op, n, f⟩).f = f := by
  obtain rfl | rfl | rfl | rfl : op = 1 ∨ op = 2 ∨ op = 3 ∨ op = 4 := by omega
  all_goals exact ⟨rfl, rfl⟩
/-- An adversary that a function of layer 17 returns, with its error. -/
def RetF (res : Adv × Int) (w : World) (e : Ending) (w' : World) : Prop := ∃ v, e = .returned (.tuple #[v, .int .i64 res.2]) ∧ AdvC w.heap.size w' v res.1 ∧ Ext w w'
theorem AdvC.zero (base : Nat) (W : World) : AdvC base W (.agg #[.int .i64 0, .slice none 0 0]) ⟨0, []⟩ := ⟨_, rfl, Coll.nil _ _, by simp⟩
theorem pof_any {op : Nat} (hop : 1 ≤ op ∧ op ≤ 4) {n f : Int} {rid fid nb : Nat} {rlb flb : Array Value} (w : World) (hN : NBox w nb n)
    (H : ∀ m : Nat, n = (m : Int) → m ≤ 5 → ∀ b o, b < 2 ^ m → o < 2 ^ m → MAsk m f.toNat b o rid fid rlb flb (fun p => (mdlOf ⟨op, m, f.toNat⟩).rows p b o) (fun g => (mdlOf ⟨op, m, f.toNat⟩).fits g b o) (fun W => NBox W nb m))
    (hne : ∀ m k b, graphsM (mdlOf ⟨op, m, k⟩) b b ≠ []) :
    Calls Try.prog 19 #[.agg #[.int .i64 n, .int .i64 f, .func (.func rid) #[] rlb, .func (.func fid) #[] flb]] w (RetF (mdlA op n f) w) := by
  by_cases hb : n < 1 ∨ 5 < n ∨ f < 0 ∨ n < f
  · refine (pof_bad hb w).mono ?_
    rintro e w' ⟨rfl, hE⟩
    unfold mdlA
    rw [if_pos hb]
    exact ⟨_, rfl, AdvC.zero _ _, hE⟩
  · obtain ⟨m, rfl⟩ : ∃ m : Nat, n = m := ⟨n.toNat, by omega⟩
    obtain ⟨k, rfl⟩ : ∃ k : Nat, f = k := ⟨f.toNat, by omega⟩
    obtain ⟨e1, e2⟩ := mdlOf_nf (n := m) (f := k) hop
    have h := pof_ok (m := mdlOf ⟨op, m, k⟩) (rid := rid) (fid := fid) (rlb := rlb) (flb := flb) (DD := fun W => NBox W nb m) (by rw [e1]; omega) (by rw [e1]; omega) (by rw [e1, e2]; omega) w (fun W hW => hN.ext hW) (by
      rw [e1, e2]
      have := H m rfl (by omega)
      rw [Int.toNat_natCast] at this
      exact this) (hne m k)
    rw [e1, e2] at h
    refine h.mono ?_
    unfold RetF mdlA
    rw [if_neg hb, Int.toNat_natCast, Int.toNat_natCast]
    exact fun e w' h => h
theorem pcrash_any (n f : Int) (w : World) : Calls Try.prog 7 #[.int .i64 n, .int .i64 f] w (RetF (mdlA 1 n f) w) := by
  have HC := hide (fun (W : World) (hN : NBox W w.heap.size n) => pof_any (op := 1) (by omega) (f := f) W hN (fun m _ hm b o hb ho => crash_ask (f := f.toNat) hm hb ho) fun m k b => crash_ne m k b)
  generalize mdlA 1 n f = res at HC ⊢
  obtain ⟨w2, hw2⟩ : ∃ w2, (w.alloc (.cells #[.int .i64 n] 3)).alloc (.cells #[.int .i64 0, .slice none 0 0] 29) = w2 := ⟨_, rfl⟩
  have HE : Hid (Ext w w2) := by show Ext _ _; rw [← hw2]; exact ((Ext.refl w).alloc _).alloc _
  have HN : Hid (NBox w2 w.heap.size n) := by show _ = _; rw [← hw2, Below.heap_alloc _ _ _ (by simp)]; exact heap_alloc_new w _
  have HP : Hid (w2.heap[w.heap.size + 1]? = some (.cells #[.int .i64 0, .slice none 0 0] 29 (0, 0))) := by
    show _ = _
    rw [← hw2]
    have := heap_alloc_new (w.alloc (.cells #[.int .i64 n] 3)) (.cells #[.int .i64 0, .slice none 0 0] 29)
    rwa [World.size_alloc] at this
  have HW := hide hw2
  clear hw2
  go_enter Try.func7, Try.ntmps7
  go_wp2_with fail
  rw [HW.out]
  refine (HC.out w2 HN.out).mono ?_
  rintro e w3 ⟨v, rfl, hv, hE3⟩
  obtain ⟨sv, rfl, hco, -⟩ := id hv
  obtain ⟨sq, sc, rfl⟩ := hco.sl
  clear hco
  have hp3 := (hE3.b.block _ (lt_of_heap HP.out)).trans HP.out
  have a0 : w3.cell? ⟨w.heap.size + 1, 0, none⟩ = some (.int .i64 0) := cells_at hp3 0
  have a1 : w3.cell? ⟨w.heap.size + 1, 1, none⟩ = some (.slice none 0 0) := cells_at hp3 1
  have af : w3.frozen? ⟨w.heap.size + 1, 0, none⟩ = false := frozen_of hp3
  have af1 : w3.frozen? ⟨w.heap.size + 1, 1, none⟩ = false := frozen_of hp3
  have az := lt_of_heap hp3
  have HP3 := hide hp3
  have HV := hide hv
  have HE3 := hide (HE.out.trans hE3)
  have HZ2 : Hid (w.heap.size ≤ w2.heap.size) := HE.out.size
  clear hp3 hv hE3
  go_wp2_with fail
  exact bodyPost_ret (results_adv1 rfl rfl rfl (heap_set (heap_set HP3.out _) _)) rfl ⟨_, rfl, (HV.out.stored2 HP3.out).mono HZ2.out, (HE3.out.setCell (p := ⟨w.heap.size + 1, 0, none⟩) (by show w.heap.size ≤ w.heap.size + 1; omega) _).setCell (p := ⟨w.heap.size + 1, 1, none⟩) (by show w.heap.size ≤ w.heap.size + 1; omega) _⟩
theorem psend_any (n f : Int) (w : World) : Calls Try.prog 8 #[.int .i64 n, .int .i64 f] w (RetF (mdlA 2 n f) w) := by
  have HC := hide (fun (W : World) (hN : NBox W w.heap.size n) => pof_any (op := 2) (by omega) (f := f) W hN (fun m _ hm b o hb ho => send_ask (f := f.toNat) hm hb ho) fun m k b => send_ne m k b)
  generalize mdlA 2 n f = res at HC ⊢
  obtain ⟨w2, hw2⟩ : ∃ w2, (w.alloc (.cells #[.int .i64 n] 3)).alloc (.cells #[.int .i64 0, .slice none 0 0] 29) = w2 := ⟨_, rfl⟩
  have HE : Hid (Ext w w2) := by show Ext _ _; rw [← hw2]; exact ((Ext.refl w).alloc _).alloc _
  have HN : Hid (NBox w2 w.heap.size n) := by show _ = _; rw [← hw2, Below.heap_alloc _ _ _ (by simp)]; exact heap_alloc_new w _
  have HP : Hid (w2.heap[w.heap.size + 1]? = some (.cells #[.int .i64 0, .slice none 0 0] 29 (0, 0))) := by
    show _ = _
    rw [← hw2]
    have := heap_alloc_new (w.alloc (.cells #[.int .i64 n] 3)) (.cells #[.int .i64 0, .slice none 0 0] 29)
    rwa [World.size_alloc] at this
  have HW := hide hw2
  clear hw2
  go_enter Try.func8, Try.ntmps8
  go_wp2_with fail
  rw [HW.out]
  refine (HC.out w2 HN.out).mono ?_
  rintro e w3 ⟨v, rfl, hv, hE3⟩
  obtain ⟨sv, rfl, hco, -⟩ := id hv
  obtain ⟨sq, sc, rfl⟩ := hco.sl
  clear hco
  have hp3 := (hE3.b.block _ (lt_of_heap HP.out)).trans HP.out
  have a0 : w3.cell? ⟨w.heap.size + 1, 0, none⟩ = some (.int .i64 0) := cells_at hp3 0
  have a1 : w3.cell? ⟨w.heap.size + 1, 1, none⟩ = some (.slice none 0 0) := cells_at hp3 1
  have af : w3.frozen? ⟨w.heap.size + 1, 0, none⟩ = false := frozen_of hp3
  have af1 : w3.frozen? ⟨w.heap.size + 1, 1, none⟩ = false := frozen_of hp3
  have az := lt_of_heap hp3
  have HP3 := hide hp3
  have HV := hide hv
  have HE3 := hide (HE.out.trans hE3)
  have HZ2 : Hid (w.heap.size ≤ w2.heap.size) := HE.out.size
  clear hp3 hv hE3
  go_wp2_with fail
  exact bodyPost_ret (results_adv1 rfl rfl rfl (heap_set (heap_set HP3.out _) _)) rfl ⟨_, rfl, (HV.out.stored2 HP3.out).mono HZ2.out, (HE3.out.setCell (p := ⟨w.heap.size + 1, 0, none⟩) (by show w.heap.size ≤ w.heap.size + 1; omega) _).setCell (p := ⟨w.heap.size + 1, 1, none⟩) (by show w.heap.size ≤ w.heap.size + 1; omega) _⟩
end Go.Proofs.Ytnhgdjiljjpgmaa
