/-
  Contracts of the reference's walks through adversaries (roundtableref16): To, Step, After, State, Allows, rounds.
  Conditions: as each theorem states.
-/
import Derived.Test.YtmkmgimmlohamaaAdvRef3
namespace Go.Proofs.Ytmkmgimmlohamaa
open Go.RowKit

/-- To where a round leads among some moves, or -1. -/
def toL (ms : List Mv) (r : Rd) : Int := match ms.find? (fun m => req m.r r) with | some m => m.to | none => -1
theorem toL_at {ms : List Mv} {r : Rd} {i : Nat} (hi : i < ms.length) (hb : ∀ j, j < i → req (ms.getD j default).r r = false) (h : req (ms.getD i default).r r = true) : toL ms r = (ms.getD i default).to := by
  unfold toL
  have hx : ∀ j, j < ms.length → ms[j]? = some (ms.getD j default) := fun j hj => by rw [List.getD_eq_getElem?_getD, List.getElem?_eq_getElem hj]; rfl
  have : ms.find? (fun m => req m.r r) = some (ms.getD i default) := by
    rw [List.find?_eq_some_iff_getElem]
    refine ⟨h, i, hi, ?_, fun j hj => ?_⟩
    · have := hx i hi; rw [List.getElem?_eq_getElem hi] at this; exact Option.some.inj this
    · have h1 := hx j (by omega); rw [List.getElem?_eq_getElem (by omega)] at h1
      rw [Option.some.inj h1, hb j hj]; rfl
  rw [this]
theorem toL_end {ms : List Mv} {r : Rd} (hb : ∀ j, j < ms.length → req (ms.getD j default).r r = false) : toL ms r = -1 := by
  unfold toL
  have : ms.find? (fun m => req m.r r) = none := by
    rw [List.find?_eq_none]
    intro m hm
    obtain ⟨j, hj, rfl⟩ := List.mem_iff_getElem.1 hm
    have := hb j hj
    rw [List.getD_eq_getElem?_getD, List.getElem?_eq_getElem hj] at this
    simpa using this
  rw [this]
theorem toL_mem {ms : List Mv} {r : Rd} : toL ms r = -1 ∨ ∃ i, i < ms.length ∧ (ms.getD i default).r = r ∧ toL ms r = (ms.getD i default).to := by
  by_cases h : ∀ j, j < ms.length → req (ms.getD j default).r r = false
  · exact .inl (toL_end h)
  · obtain ⟨i, h1, h2⟩ : ∃ i, i < ms.length ∧ req (ms.getD i default).r r = true := by
      apply Classical.byContradiction
      intro hc
      exact h fun j hj => by
        cases hq : req (ms.getD j default).r r
        · rfl
        · exact absurd ⟨j, hj, hq⟩ hc
    have : ∃ k, k ≤ i ∧ req (ms.getD k default).r r = true ∧ ∀ j, j < k → req (ms.getD j default).r r = false := by
      clear h
      induction i using Nat.strongRecOn with
      | _ i ih =>
        by_cases hall : ∀ j, j < i → req (ms.getD j default).r r = false
        · exact ⟨i, Nat.le_refl _, h2, hall⟩
        · obtain ⟨j, hj, hq⟩ : ∃ j, j < i ∧ req (ms.getD j default).r r = true := by
            apply Classical.byContradiction
            intro hc
            exact hall fun j hj => by
              cases hq : req (ms.getD j default).r r
              · rfl
              · exact absurd ⟨j, hj, hq⟩ hc
          obtain ⟨k, h3, h4, h5⟩ := ih j hj (by omega) hq
          exact ⟨k, by omega, h4, h5⟩
    obtain ⟨k, h3, h4, h5⟩ := this
    exact .inr ⟨k, by omega, req_iff.1 h4, toL_at (by omega) h5 h4⟩

set_option maxHeartbeats 1000000 in
theorem rto_any (A : Adv) (v : Value) (s : Nat) (r : Rd) (w : World) (hA : AdvRep w v A) (hs : s < A.L) :
    Calls Try.prog 63 #[v, .int .i64 s, r.v] w fun e w' => e = .returned (.int .i64 (toL (A.st.getD s []) r)) ∧ Ext w w' := by
  obtain ⟨p, c, rfl, hc, hl, hat⟩ := hA.all_
  clear hA
  obtain ⟨b, o, rfl, hb, hat⟩ := hat (by omega)
  obtain ⟨q, d, hcl, hld, hml, hrow, hmv⟩ := hat s hs
  clear hat hrow
  have HT1 := hide (fun i hi h1 h2 => toL_at (ms := A.st.getD s []) (r := r) (i := i) hi h1 h2)
  have HT2 := hide (toL_end (ms := A.st.getD s []) (r := r))
  have hmve : ∀ i, (A.st.getD s []).getD i default = A.mv s i := fun i => rfl
  have hlene : (A.st.getD s []).length = A.len s := rfl
  simp only [hmve, hlene] at HT1 HT2
  clear hmve hlene
  generalize toL (A.st.getD s []) r = res at HT1 HT2 ⊢
  obtain ⟨⟨n, a, b', c', d', e'⟩, f⟩ := r
  dsimp only [Rd.v]
  have HMV := hide hmv
  clear hmv
  generalize hmf : A.mv s = mf at HMV HT1 HT2
  generalize A.len s = ls at *
  generalize A.L = L at *
  generalize A.n = N at *
  clear hmf
  go_enter Try.func63, Try.ntmps63
  go_wp2_with fail
  have hE1 : Ext w ((w.alloc (.cells #[.int .i64 N, .slice (some ⟨b, o, none⟩) L c] 24)).alloc (.cells #[.int .i64 n, .int .i64 a, .int .i64 b', .int .i64 c', .int .i64 d', .int .i64 e', .int .i64 f] 43)) := ((Ext.refl w).alloc _).alloc _
  have hbx : ∀ W, Ext ((w.alloc (.cells #[.int .i64 N, .slice (some ⟨b, o, none⟩) L c] 24)).alloc (.cells #[.int .i64 n, .int .i64 a, .int .i64 b', .int .i64 c', .int .i64 d', .int .i64 e', .int .i64 f] 43)) W → ∀ j u, (#[.int .i64 n, .int .i64 a, .int .i64 b', .int .i64 c', .int .i64 d', .int .i64 e', .int .i64 f] : Array Value)[j]? = some u → W.cell? ⟨w.heap.size + 1, j, none⟩ = some u := fun W h j u hu => by
    rw [h.cell (by simp)]
    have := cell_new (w.alloc (.cells #[.int .i64 N, .slice (some ⟨b, o, none⟩) L c] 24)) #[.int .i64 n, .int .i64 a, .int .i64 b', .int .i64 c', .int .i64 d', .int .i64 e', .int .i64 f] 43 j
    rw [World.size_alloc] at this
    rw [this, hu]
  have HBX := hide hbx
  clear hbx
  have hz0 : w.heap.size + 1 < ((w.alloc (.cells #[.int .i64 N, .slice (some ⟨b, o, none⟩) L c] 24)).alloc (.cells #[.int .i64 n, .int .i64 a, .int .i64 b', .int .i64 c', .int .i64 d', .int .i64 e', .int .i64 f] 43)).heap.size := by simp
  generalize (w.alloc (.cells #[.int .i64 N, .slice (some ⟨b, o, none⟩) L c] 24)).alloc (.cells #[.int .i64 n, .int .i64 a, .int .i64 b', .int .i64 c', .int .i64 d', .int .i64 e', .int .i64 f] 43) = w1 at hE1 HBX hz0 ⊢
  go_loopw [8] (fun x wr => ∃ i : Nat, i ≤ ls ∧ x = .int .i64 i ∧ (∀ j, j < i → req (mf j).r ⟨⟨n, a, b', c', d', e'⟩, f⟩ = false) ∧ Ext w1 wr) (fun x _ => ls - (intOf x).toNat)
  case atStart => exact ⟨0, by omega, rfl, fun s' hs' => by omega, Ext.refl _⟩
  case round =>
    obtain ⟨i, hi, rfl, hj, hE⟩ := hrel
    have HJ := hide hj
    clear hj
    have hEr := hE1.trans hE
    by_cases hlt : i < ls
    · obtain ⟨b2, o2, rfl, hb2, hmv⟩ := HMV.out (by omega)
      obtain ⟨x0, x1, x2, x3, x4, x5, x6, x7⟩ := hmv i hlt
      clear hmv
      have y0 := HBX.out wr hE 0 _ rfl
      have y1 := HBX.out wr hE 1 _ rfl
      have y2 := HBX.out wr hE 2 _ rfl
      have y3 := HBX.out wr hE 3 _ rfl
      have y4 := HBX.out wr hE 4 _ rfl
      have y5 := HBX.out wr hE 5 _ rfl
      have y6 := HBX.out wr hE 6 _ rfl
      have hz1 : w.heap.size + 1 < wr.heap.size := by have := hE.size; omega
      have HN : Hid (req (mf i).r ⟨⟨n, a, b', c', d', e'⟩, f⟩ = false → ∀ j, j < i + 1 → req (mf j).r ⟨⟨n, a, b', c', d', e'⟩, f⟩ = false) := fun h j hj => by
        by_cases e : j = i
        · subst e; exact h
        · exact HJ.out j (by omega)
      have HF := hide (HT1.out i hlt HJ.out)
      generalize mf i = m at x0 x1 x2 x3 x4 x5 x6 x7 HN HF
      obtain ⟨⟨⟨n1, a1, b1, c1, d1, e1⟩, f1⟩, t1⟩ := m
      dsimp only at x0 x1 x2 x3 x4 x5 x6 x7 HN HF
      have heq := eql_round n1 a1 b1 c1 d1 e1 f1 n a b' c' d' e' f
      generalize req ⟨⟨n1, a1, b1, c1, d1, e1⟩, f1⟩ ⟨⟨n, a, b', c', d', e'⟩, f⟩ = g at heq HN HF
      go_wp2_with fail
      refine wp_region_ext (by kernel_rfl) (by kernel_rfl) ?_
      repeat (go_big_quiet_step (fail))
      refine wpQuiet_nil ?_
      rintro w9 ⟨⟨_, hE9⟩, rfl⟩
      clear heq y0 y1 y2 y3 y4 y5 y6
      have hE10 := hEr.trans hE9
      cases g
      · have HR := hide (HN.out rfl)
        go_wp2
        go_roundw
        case rel => exact ⟨i + 1, by omega, by go_num, HR.out, hE.trans hE9⟩
        case measure => simp [intOf]; omega
      · have HR := hide (HF.out rfl)
        go_wp2
        go_ret
        exact ⟨ret_int HR.out.symm, hE10⟩
    · obtain rfl : i = ls := by omega
      have HR := hide (HT2.out HJ.out)
      go_wp2
      go_ret
      exact ⟨ret_int HR.out.symm, hEr⟩

theorem achk_zero {A : Adv} (h : achk A = 0) : 1 ≤ A.n ∧ A.n ≤ 5 ∧ 1 ≤ A.L ∧ A.L ≤ 256 ∧ movesN A ≤ 4096 ∧ (∀ s, s < A.L → stErr A s = 0) ∧ growsB A = true := by
  unfold achk at h
  by_cases h1 : A.n < 1 ∨ 5 < A.n
  · rw [if_pos h1] at h; exact absurd h (by decide)
  rw [if_neg h1] at h
  by_cases h2 : A.L < 1 ∨ 256 < A.L ∨ 4096 < movesN A
  · rw [if_pos h2] at h; exact absurd h (by decide)
  rw [if_neg h2] at h
  by_cases h3 : firstErr (stErr A) A.L = 0
  · rw [if_pos h3] at h
    cases h4 : growsB A
    · rw [h4] at h; exact absurd h (by decide)
    · exact ⟨by omega, by omega, by omega, by omega, by omega, firstErr_zero.1 h3, rfl⟩
  · rw [if_neg h3] at h; exact absurd h h3
theorem to_range {A : Adv} (h : achk A = 0) {s : Nat} (hs : s < A.L) (r : Rd) : toL (A.st.getD s []) r = -1 ∨ (0 ≤ toL (A.st.getD s []) r ∧ toL (A.st.getD s []) r < A.L) := by
  rcases toL_mem (ms := A.st.getD s []) (r := r) with h1 | ⟨i, h1, _, h3⟩
  · exact .inl h1
  · have := sound_of (achk_zero h).2.2.2.2.2.1 s hs i h1
    rw [h3]
    exact .inr ⟨this.1, this.2.1⟩

/-- What Step returns. -/
def stepS (A : Adv) (s : Int) (r : Rd) : Int × Int :=
  if achk A = 0 then (if s < 0 ∨ (A.L : Int) ≤ s then (0, 6) else if 0 ≤ toL (A.st.getD s.toNat []) r then (toL (A.st.getD s.toNat []) r, 0) else (0, 25)) else (0, achk A)
theorem ret_tup {a b c d : Int} {k l : IntKind} (h : (a, b) = (c, d)) : Ending.returned (.tuple #[.int k a, .int l b]) = .returned (.tuple #[.int k c, .int l d]) := by
  injection h with h1 h2; rw [h1, h2]
theorem ret_tupb {a c : Bool} {b d : Int} {l : IntKind} (h : (a, b) = (c, d)) : Ending.returned (.tuple #[.bool a, .int l b]) = .returned (.tuple #[.bool c, .int l d]) := by
  injection h with h1 h2; rw [h1, h2]


/-- The state behind a word, from a state on; or something negative. -/
def after (A : Adv) (s : Int) : List Rd → Int
  | [] => s
  | r :: l => if s < 0 then s else after A (toL (A.st.getD s.toNat []) r) l
theorem after_neg {A : Adv} {s : Int} (h : s < 0) (l : List Rd) : after A s l = s := by
  cases l with
  | nil => rfl
  | cons r l => simp only [after]; rw [if_pos h]
theorem after_step {A : Adv} {s : Int} (h : ¬ s < 0) {l : List Rd} {k : Nat} (hk : k < l.length) : after A s (l.drop k) = after A (toL (A.st.getD s.toNat []) (l.getD k default)) (l.drop (k + 1)) := by
  have e : l.getD k default = l[k] := by rw [List.getD_eq_getElem?_getD, List.getElem?_eq_getElem hk]; rfl
  rw [List.drop_eq_getElem_cons hk, e]
  show (if s < 0 then s else after A (toL (A.st.getD s.toNat []) l[k]) (l.drop (k + 1))) = _
  rw [if_neg h]
theorem after_range {A : Adv} (h : achk A = 0) (l : List Rd) : ∀ s : Int, (s = -1 ∨ (0 ≤ s ∧ s < A.L)) → (after A s l = -1 ∨ (0 ≤ after A s l ∧ after A s l < A.L)) := by
  induction l with
  | nil => intro s hs; exact hs
  | cons r l ih =>
    intro s hs
    simp only [after]
    by_cases h0 : s < 0
    · rw [if_pos h0]; exact hs
    · rw [if_neg h0]
      exact ih _ (to_range h (s := s.toNat) (by omega) r)

end Go.Proofs.Ytmkmgimmlohamaa
