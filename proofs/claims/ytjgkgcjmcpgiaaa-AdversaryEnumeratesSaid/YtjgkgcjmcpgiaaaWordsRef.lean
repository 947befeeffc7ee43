/-
  Contracts of the reference's lists of words (roundtableref16): From, Words.
  Conditions: as each theorem states.
-/
import Derived.Test.YtjgkgcjmcpgiaaaAdvRef5
import Derived.Test.YtjgkgcjmcpgiaaaColl
namespace Go.Proofs.Ytjgkgcjmcpgiaaa
open Go.RowKit

/-- A value is returned of which R holds; the world has grown. -/
def RetV (R : Value → World → Prop) (w : World) (e : Ending) (w' : World) : Prop := ∃ u, e = .returned u ∧ R u w' ∧ Ext w w'
/-- Two values are returned, the second a number. -/
def RetV2 (R : Value → World → Prop) (n : Int) (w : World) (e : Ending) (w' : World) : Prop := ∃ u, e = .returned (.tuple #[u, .int .i64 n]) ∧ R u w' ∧ Ext w w'

/-- The words with k rounds from state s on. -/
def fromS (A : Adv) : Nat → Nat → List (List Rd)
  | 0, _ => [[]]
  | k + 1, s => (List.range (A.len s)).flatMap fun i => (fromS A k (A.mv s i).to.toNat).map ((A.mv s i).r :: ·)
def fromP (A : Adv) (k s i : Nat) : List (List Rd) := (List.range i).flatMap fun i => (fromS A k (A.mv s i).to.toNat).map ((A.mv s i).r :: ·)
theorem fromP_succ (A : Adv) (k s i : Nat) : fromP A k s (i + 1) = fromP A k s i ++ (fromS A k (A.mv s i).to.toNat).map ((A.mv s i).r :: ·) := by
  unfold fromP; rw [List.range_succ, List.flatMap_append]; simp
theorem fromP_len_mono (A : Adv) (k s : Nat) {i j : Nat} (h : i ≤ j) : (fromP A k s i).length ≤ (fromP A k s j).length := by
  obtain ⟨d, rfl⟩ := Nat.exists_eq_add_of_le h
  induction d with
  | zero => exact Nat.le_refl _
  | succ d ih => rw [← Nat.add_assoc, fromP_succ, List.length_append]; have := ih (by omega); omega
theorem fromS_words (A : Adv) : ∀ k s x, x ∈ fromS A k s → x.length = k := by
  intro k
  induction k with
  | zero => intro s x h; simp [fromS] at h; simp [h]
  | succ k ih =>
    intro s x h
    simp only [fromS, List.mem_flatMap, List.mem_map] at h
    obtain ⟨i, _, y, hy, rfl⟩ := h
    simp [ih _ _ hy]
theorem rslice_info : (Try.prog.info? 25).map (fun i => (i.zero, i.size, i.bytes)) = some (some (.slice none 0 0), 1, 24) := by kernel_rfl
theorem round_info : (Try.prog.info? 67).map (fun i => (i.zero, i.size, i.bytes)) = some (some (Rd.v default), 7, 56) := by kernel_rfl
theorem rd_one (x : Rd) : ∀ u ∈ Rd.cells x, u.oneCell' = true := by intro u hu; simp only [List.mem_cons, List.not_mem_nil, or_false] at hu; rcases hu with rfl | rfl | rfl | rfl | rfl | rfl | rfl <;> rfl
theorem own_new_rd (w : World) (r : Rd) : Own Rd.cells 7 (w.alloc (.cells r.cells.toArray 67)) w.heap.size 67 (.slice (some ⟨w.heap.size, 0, none⟩) 1 1) [r] :=
  ⟨fun _ => rfl, rfl, .inr ⟨w.heap.size, 1, r.cells.toArray, rfl, Nat.le_refl _, heap_alloc_new w _, Nat.le_refl _, by unfold maxLen; omega, rfl, rfl⟩⟩

set_option maxHeartbeats 4000000 in
theorem rfrom_any (A : Adv) (v : Value) (h0 : achk A = 0) : ∀ (k s : Nat) (w : World), AdvRep w v A → s < A.L → (fromS A k s).length ≤ 4096 → k ≤ 100 →
    Calls Try.prog 52 #[v, .int .i64 s, .int .i64 k] w (RetV (fun u w' => Coll 25 67 Rd.cells 7 w' w.heap.size u (fromS A k s)) w) := by
  intro k
  induction k with
  | zero =>
    intro s w hA hs hlen _
    obtain ⟨p, c, rfl, hc, hl, hat⟩ := hA.all_
    clear hA hat
    rw [show ((0 : Nat) : Int) = 0 from rfl]
    go_enter Try.func52, Try.ntmps52
    go_wp2_with fail
    go_ret
    refine ⟨_, rfl, ?_, ((Ext.refl w).alloc _).alloc _⟩
    refine ⟨[.slice none 0 0], rfl, ⟨fun _ => rfl, rfl, .inr ⟨w.heap.size + 1, 1, #[.slice none 0 0], rfl, by omega, ?_, Nat.le_refl _, by unfold maxLen; omega, rfl, rfl⟩⟩, fun i u xs hu hx => ?_⟩
    · have := heap_alloc_new (w.alloc (.cells #[.int .i64 A.n, .slice p A.L c] 24)) (.cells #[.slice none 0 0] 25)
      rw [World.size_alloc] at this
      exact this
    · cases i with
      | zero =>
        simp only [fromS, List.getElem?_cons_zero, Option.some.injEq] at hu hx
        subst hu hx
        exact RowE.nil _ _ _ _
      | succ i => simp at hu
  | succ k ih =>
    intro s w hA hs hlen hk
    have HS := hide (sound_of (achk_zero h0).2.2.2.2.2.1)
    have HIH := hide (fun t W (hE : Ext w W) ht hl => ih t W (hA.ext hE) ht hl (by omega))
    clear ih h0
    obtain ⟨p, c, rfl, hc, hL, hat⟩ := hA.all_
    clear hA
    obtain ⟨b, o, rfl, hb, hat⟩ := hat (by omega)
    obtain ⟨q, d, hcl, hld, hml, _, hmv⟩ := hat s hs
    clear hat
    have HMV := hide hmv
    have HFS := hide (fun i hi => (HS.out s hs i hi))
    have HPS := hide (fromP_succ A k s)
    have HPM := hide (fun i (hi : i ≤ A.len s) => Nat.le_trans (fromP_len_mono A k s hi) hlen)
    have HRES : Hid (fromP A k s (A.len s) = fromS A (k + 1) s) := rfl
    have HP0 : Hid (fromP A k s 0 = []) := rfl
    clear hmv hlen HS
    generalize hres : fromS A (k + 1) s = res at HRES ⊢
    clear hres
    generalize hfp : fromP A k s = fp at HPS HPM HRES HP0
    clear hfp
    generalize hmf : A.mv s = mf at HMV HFS HPS
    clear hmf
    generalize A.len s = ls at *
    have hd0 : (((k : Int) + 1) == 0) = false := by simp; omega
    have hkk : (((k + 1 : Nat) : Int)) = (k : Int) + 1 := by omega
    rw [hkk]
    clear hkk
    go_enter Try.func52, Try.ntmps52
    go_wp2_with fail
    have hE1 : Ext w (w.alloc (.cells #[.int .i64 A.n, .slice (some ⟨b, o, none⟩) A.L c] 24)) := (Ext.refl w).alloc _
    have hb1 : ∀ W, Ext (w.alloc (.cells #[.int .i64 A.n, .slice (some ⟨b, o, none⟩) A.L c] 24)) W → W.cell? ⟨w.heap.size, 0, none⟩ = some (.int .i64 A.n) ∧ W.cell? ⟨w.heap.size, 1, none⟩ = some (.slice (some ⟨b, o, none⟩) A.L c) := fun W h => ⟨by rw [h.cell (by simp), cell_new]; rfl, by rw [h.cell (by simp), cell_new]; rfl⟩
    have HB := hide hb1
    clear hb1
    have hz1 : w.heap.size < (w.alloc (.cells #[.int .i64 A.n, .slice (some ⟨b, o, none⟩) A.L c] 24)).heap.size := by simp
    generalize w.alloc (.cells #[.int .i64 A.n, .slice (some ⟨b, o, none⟩) A.L c] 24) = w1 at hE1 HB hz1 ⊢
    go_loopw [7, 8, 9, 10, 11, 12] (fun u x _ _ _ _ wr => ∃ i : Nat, i ≤ ls ∧ x = .int .i64 i ∧ Coll 25 67 Rd.cells 7 wr w1.heap.size u (fp i) ∧ Ext w1 wr) (fun _ x _ _ _ _ _ => ls - (intOf x).toNat)
    case atStart => exact ⟨0, by omega, rfl, by rw [HP0.out]; exact Coll.nil _ _, Ext.refl _⟩
    case round =>
      obtain ⟨i, hi, rfl, hcoll, hE⟩ := hrel
      obtain ⟨hr0, hr1⟩ := HB.out wr hE
      have hEr := hE1.trans hE
      have hz2 : w.heap.size < wr.heap.size := by have := hE.size; omega
      by_cases hlt : i < ls
      · obtain ⟨b2, o2, rfl, hb2, hmv⟩ := HMV.out (by omega)
        obtain ⟨x0, x1, x2, x3, x4, x5, x6, x7⟩ := hmv i hlt
        clear hmv
        obtain ⟨ht0, ht1, _, _⟩ := HFS.out i hlt
        have HP := hide (HPS.out i)
        have HL := hide (HPM.out (i + 1) (by omega))
        have HL0 := hide (HPM.out i (by omega))
        generalize mf i = m at x0 x1 x2 x3 x4 x5 x6 x7 ht0 ht1 HP
        obtain ⟨⟨⟨n1, a1, b1, c1, d1, e1⟩, f1⟩, t1⟩ := m
        dsimp only at x0 x1 x2 x3 x4 x5 x6 x7 ht0 ht1 HP
        obtain ⟨t, rfl⟩ := Int.eq_ofNat_of_zero_le ht0
        rw [Int.toNat_natCast] at HP
        have htl : t < A.L := by omega
        have HC := hide (fun W hE => HIH.out t W hE htl (by have := HL.out; rw [HP.out, List.length_append, List.length_map] at this; omega))
        have hws : (fromS A k t).length ≤ 4096 := by have := HL.out; rw [HP.out, List.length_append, List.length_map] at this; omega
        have hwl : (fp i).length + (fromS A k t).length ≤ 4096 := by have := HL.out; rw [HP.out, List.length_append, List.length_map] at this; omega
        have hwd := fromS_words A k t
        generalize fromS A k t = ws at HP HC hws hwl hwd
        have HWD := hide hwd
        clear hwd HL
        go_wp2_with fail
        have hEb : Ext wr (wr.alloc (.cells #[.int .i64 n1, .int .i64 a1, .int .i64 b1, .int .i64 c1, .int .i64 d1, .int .i64 e1, .int .i64 f1, .int .i64 t] 69)) := (Ext.refl _).alloc _
        have hblk : (wr.alloc (.cells #[.int .i64 n1, .int .i64 a1, .int .i64 b1, .int .i64 c1, .int .i64 d1, .int .i64 e1, .int .i64 f1, .int .i64 t] 69)).heap[wr.heap.size]? = some (.cells #[.int .i64 n1, .int .i64 a1, .int .i64 b1, .int .i64 c1, .int .i64 d1, .int .i64 e1, .int .i64 f1, .int .i64 t] 69 (0, 0)) := heap_alloc_new wr _
        have hz3 : wr.heap.size < (wr.alloc (.cells #[.int .i64 n1, .int .i64 a1, .int .i64 b1, .int .i64 c1, .int .i64 d1, .int .i64 e1, .int .i64 f1, .int .i64 t] 69)).heap.size := by simp
        have hcell7 : (wr.alloc (.cells #[.int .i64 n1, .int .i64 a1, .int .i64 b1, .int .i64 c1, .int .i64 d1, .int .i64 e1, .int .i64 f1, .int .i64 t] 69)).cell? ⟨wr.heap.size, 7, none⟩ = some (.int .i64 t) := by rw [cell_new]; rfl
        obtain ⟨hs0, hs1⟩ := HB.out _ (hE.trans hEb)
        generalize wr.alloc (.cells #[.int .i64 n1, .int .i64 a1, .int .i64 b1, .int .i64 c1, .int .i64 d1, .int .i64 e1, .int .i64 f1, .int .i64 t] 69) = w2 at hEb hblk hz3 hcell7 hs0 hs1 ⊢
        obtain ⟨wo, rfl⟩ : ∃ wo : World, wo = wr := ⟨_, rfl⟩
        try simp only [Int.add_sub_cancel]
        refine (HC.out _ (hEr.trans hEb)).mono ?_
        rintro e w3 ⟨u3, rfl, hrows, hE3⟩
        have hcoll3 := (hcoll.ext hEb).ext hE3
        have hblk3 : w3.heap[wo.heap.size]? = some (.cells #[.int .i64 n1, .int .i64 a1, .int .i64 b1, .int .i64 c1, .int .i64 d1, .int .i64 e1, .int .i64 f1, .int .i64 t] 69 (0, 0)) := by rw [hE3.b.block _ hz3]; exact hblk
        have hdis : ∀ g, u7.ownBlock = some g → u3.ownBlock ≠ some g := fun g hg hg3 => by
          have h1 := (hcoll.lt g hg).2
          have h2 := (hrows.lt g hg3).1
          omega
        have hE13 : Ext w1 w3 := hE.trans (hEb.trans hE3)
        clear hs0 hs1 hr0 hr1 hblk hcell7 hcoll hE hEb hE3 hEr hz3 hz2 x0 x1 x2 x3 x4 x5 x6 x7
        have hL3 : ∃ p3 c3, u3 = .slice p3 ws.length c3 := by
          rcases hrows.form with ⟨h1, h2⟩ | ⟨g, c, h1, _⟩
          · exact ⟨none, 0, by rw [h1, h2]; rfl⟩
          · exact ⟨_, _, h1⟩
        obtain ⟨p3, c3, hu3⟩ := hL3
        subst hu3
        go_wp2_with fail
        go_loopw [7, 11, 12] (fun u x _ wr => ∃ j : Nat, j ≤ ws.length ∧ x = .int .i64 j ∧ Coll 25 67 Rd.cells 7 wr w1.heap.size u (fp i ++ (ws.take j).map (⟨⟨n1, a1, b1, c1, d1, e1⟩, f1⟩ :: ·)) ∧ Coll 25 67 Rd.cells 7 wr w2.heap.size (.slice p3 ws.length c3) ws ∧
          (∀ g, u.ownBlock = some g → (Value.slice p3 ws.length c3).ownBlock ≠ some g) ∧ wr.heap[wo.heap.size]? = some (.cells #[.int .i64 n1, .int .i64 a1, .int .i64 b1, .int .i64 c1, .int .i64 d1, .int .i64 e1, .int .i64 f1, .int .i64 t] 69 (0, 0)) ∧ Ext w1 wr) (fun _ x _ _ => ws.length - (intOf x).toNat)
        case atStart => exact ⟨0, by omega, rfl, by simpa using hcoll3, hrows, hdis, hblk3, hE13⟩
        case round =>
          obtain ⟨j, hj, rfl, hcoll, hrest, hdis, hblk, hE⟩ := hrel
          clear hcoll3 hrows hblk3 hE13
          have hEr := hE1.trans hE
          by_cases hlt2 : j < ws.length
          · obtain ⟨g, c9, v9, hu, hg9, hcl9, hrow9⟩ := hrest.at_ hlt2
            injection hu with hu1 hu2 hu3
            subst hu1 hu3
            clear hu2
            have hcb : ∀ k : Nat, wr.cell? ⟨wo.heap.size, k, none⟩ = (#[.int .i64 n1, .int .i64 a1, .int .i64 b1, .int .i64 c1, .int .i64 d1, .int .i64 e1, .int .i64 f1, .int .i64 t] : Array Value)[k]? := fun k => cell_of_row wr _ k _ _ _ hblk
            have z0 : wr.cell? ⟨wo.heap.size, 0, none⟩ = some (.int .i64 n1) := hcb 0
            have z1 : wr.cell? ⟨wo.heap.size, 1, none⟩ = some (.int .i64 a1) := hcb 1
            have z2 : wr.cell? ⟨wo.heap.size, 2, none⟩ = some (.int .i64 b1) := hcb 2
            have z3 : wr.cell? ⟨wo.heap.size, 3, none⟩ = some (.int .i64 c1) := hcb 3
            have z4 : wr.cell? ⟨wo.heap.size, 4, none⟩ = some (.int .i64 d1) := hcb 4
            have z5 : wr.cell? ⟨wo.heap.size, 5, none⟩ = some (.int .i64 e1) := hcb 5
            have z6 : wr.cell? ⟨wo.heap.size, 6, none⟩ = some (.int .i64 f1) := hcb 6
            clear hcb
            have hlw : (ws.getD j []).length ≤ 100 := by
              rw [HWD.out (ws.getD j []) (by rw [List.getD_eq_getElem?_getD, List.getElem?_eq_getElem hlt2]; exact List.getElem_mem hlt2)]; omega
            have HTK : Hid ((ws.take (j + 1)).map ((⟨⟨n1, a1, b1, c1, d1, e1⟩, f1⟩ : Rd) :: ·) = (ws.take j).map ((⟨⟨n1, a1, b1, c1, d1, e1⟩, f1⟩ : Rd) :: ·) ++ [[(⟨⟨n1, a1, b1, c1, d1, e1⟩, f1⟩ : Rd)] ++ ws.getD j []]) := by
              show _ = _
              rw [List.take_add_one, List.getElem?_eq_getElem hlt2, List.map_append, List.getD_eq_getElem?_getD, List.getElem?_eq_getElem hlt2]
              rfl
            generalize ws.getD j [] = yj at hrow9 hlw HTK
            have hzo : wo.heap.size < wr.heap.size := by
              rcases Nat.lt_or_ge wo.heap.size wr.heap.size with h | h
              · exact h
              · rw [Array.getElem?_eq_none h] at hblk; cases hblk
            have hrow9' : RowE 67 Rd.cells 7 wr v9 yj := hrow9
            obtain ⟨⟨p10, c10, hv9, _⟩, _⟩ := hrow9
            subst hv9
            have hHB := HB.out wr hE
            have hsz1 := hE.size
            have tok : True := trivial
            go_wp2_with (first
              | (at_builtin
                 have _t := tok
                 refine wpList_appendN rfl (.tmp 50) (.tmp 54) 25 rfl wr.heap.size 67 (Rd.v default) 7 56 Try.underlying25 round_info rfl (by decide) _ [⟨⟨n1, a1, b1, c1, d1, e1⟩, f1⟩] _ yj rfl (own_new_rd wr ⟨⟨n1, a1, b1, c1, d1, e1⟩, f1⟩) rfl (hrow9'.1.ext ((Ext.refl wr).alloc _)) rd_one (by simp; omega) (by decide) (by simp) ?_
                 intro v' w' hown' hg
                 clear tok
                 have hEw : Ext wr w' := ((Ext.refl wr).alloc _).grown hg (fun k hk => by cases hk; exact Nat.le_refl _)
                 obtain ⟨g', c', hv'⟩ : ∃ g' c', v' = .slice (some ⟨g', 0, none⟩) (yj.length + 1) c' := by
                   rcases hown'.form with ⟨_, h⟩ | ⟨g', c', h, _⟩
                   · cases h
                   · exact ⟨g', c', by rw [h, List.length_append, List.length_singleton, Nat.add_comm]⟩
                 have hrowE := hown'.rowE (by simp; omega)
                 subst hv')
              | (at_builtin
                 refine wpList_push rfl (.tmp 49) (.tmp 56) 41 rfl w1.heap.size 25 67 7 (by decide) Try.underlying41 rslice_info _ (fp i ++ (ws.take j).map (⟨⟨n1, a1, b1, c1, d1, e1⟩, f1⟩ :: ·)) _ ([⟨⟨n1, a1, b1, c1, d1, e1⟩, f1⟩] ++ yj) w'.heap.size rfl ((hcoll.ext hEw).ext ((Ext.refl w').alloc _)) rfl (cell_new1 _ _ _) (hrowE.ext ((Ext.refl w').alloc _)) (by simp; omega) (by simp; have := hEw.size; omega) ?_
                 intro v'' w'' hcoll' hg' hform'))
            have hEa : Ext w' (w'.alloc (.cells #[.slice (some ⟨g', 0, none⟩) (yj.length + 1) c'] 25)) := (Ext.refl w').alloc _
            have hEwa := hEw.trans hEa
            have hcollA := hcoll.ext hEwa
            have hrest' := (hrest.ext hEwa).kept hg' (.inr (fun he => hdis g (he.symm.trans rfl) rfl)) hcollA.typed (by decide)
            have hblk' : w''.heap[wo.heap.size]? = some (.cells #[.int .i64 n1, .int .i64 a1, .int .i64 b1, .int .i64 c1, .int .i64 d1, .int .i64 e1, .int .i64 f1, .int .i64 t] 69 (0, 0)) := by
              rw [hg'.block _ (by have := hEwa.size; omega) (fun he => by
                obtain ⟨cur, fr, hh⟩ := hcoll.typed _ he.symm
                rw [hblk] at hh
                injection hh with h1
                injection h1 with _ h2
                exact absurd h2 (by decide)), hEwa.b.block _ hzo]
              exact hblk
            have hdis' : ∀ g5, v''.ownBlock = some g5 → (Value.slice (some ⟨g, 0, none⟩) ws.length c3).ownBlock ≠ some g5 := fun g5 h5 h6 => by
              obtain ⟨g6, c6, h7, h8⟩ := hform'
              have e1 : g6 = g5 := by rw [h7] at h5; injection h5
              have e2 : g = g5 := by injection h6
              rcases h8 with h8 | h8
              · exact hdis g6 h8 (by rw [e1]; exact h6)
              · have := hEwa.size; omega
            have hE2 : Ext w1 w'' := (hE.trans hEwa).grown hg' hcoll.block_ge
            go_roundw
            case rel => exact ⟨j + 1, by omega, by go_num, by rw [HTK.out, ← List.append_assoc]; exact hcoll', hrest', hdis', hblk', hE2⟩
            case measure => simp [intOf]; omega
          · obtain rfl : j = ws.length := by omega
            go_wp2_with fail
            go_roundw
            case rel => exact ⟨i + 1, by omega, by go_num, by rw [HP.out]; simpa using hcoll, hE⟩
            case measure => simp [intOf]; omega
      · obtain rfl : i = ls := by omega
        go_wp2_with fail
        go_ret
        refine ⟨_, rfl, ?_, hEr⟩
        rw [← HRES.out]
        exact hcoll.mono hE1.size
end Go.Proofs.Ytjgkgcjmcpgiaaa
