/-
  Plain: the rounds of Snapshot: the adversary is well-formed; its words.
  Conditions: as each theorem states.
-/
import Derived.Test.YtnhgdjiljjpgmaaPartLaw
namespace Go.Proofs.Ytnhgdjiljjpgmaa

/-- What processes hear can be compared, and contains what those hear whom they hear. -/
def Snp (n : Nat) (g : Gr) : Prop := snapB n g = true
theorem every_snp {n : Nat} (h1 : 1 ≤ n) (h5 : n ≤ 5) {g : Gr} : (g ∈ everyB n 6 ∧ snapB n g = true) ↔ Wf g n ∧ Snp n g := by
  rw [every_mem h5]
  constructor
  · rintro ⟨⟨h2, h3, h4⟩, hd⟩
    refine ⟨?_, hd⟩
    have hc : gchk g = 0 := rowG_chk (P := fun q s => bit s q) h1 h5 (fun _ _ h => h) ⟨h2, fun q hq => by
      obtain ⟨s, e1, e2, e3⟩ := h3 q hq
      rw [Bool.and_eq_true] at e3
      exact ⟨s, e1, e2, e3.1⟩, h4⟩
    obtain ⟨m, hm⟩ := wf_of hc
    have : m = n := by have := hm.n_eq; omega
    subst this
    exact hm
  · rintro ⟨hw, hd⟩
    refine ⟨⟨hw.n_eq, fun q hq => ⟨g.r q, hw.lt q hq, hw.row q, ?_⟩, fun q hq _ => by rw [hw.row q, hw.out q hq]; rfl⟩, hd⟩
    rw [Bool.and_eq_true]
    refine ⟨hw.own q hq, ?_⟩
    unfold joinsB
    rw [List.all_eq_true]
    intro p hp
    have hp := List.mem_range.1 hp
    unfold Snp snapB at hd
    rw [List.all_eq_true] at hd
    have h2 := hd q (List.mem_range.2 hq)
    rw [List.all_eq_true] at h2
    have h2 := h2 p (List.mem_range.2 (by omega))
    rw [hw.row q, hw.row p] at h2
    rw [hw.row p]
    simp only [Int.toNat_natCast] at h2 ⊢
    revert h2
    cases insd (g.r q) (g.r p) <;> cases insd (g.r p) (g.r q) <;> simp
theorem snap_perm {n : Nat} (h1 : 1 ≤ n) (h5 : n ≤ 5) : (snapL n).Perm ((everyB n 6).filter (snapB n)) := by
  have h := snap_table
  rw [List.all_eq_true] at h
  have h := h (n - 1) (List.mem_range.2 (by omega))
  rw [show n - 1 + 1 = n by omega, Bool.and_eq_true] at h
  exact perm_sames h.1
theorem snap_mem {n : Nat} (h1 : 1 ≤ n) (h5 : n ≤ 5) {g : Gr} : g ∈ snapL n ↔ Wf g n ∧ Snp n g := by
  rw [(snap_perm h1 h5).mem_iff, List.mem_filter]
  exact every_snp h1 h5
theorem snapE_mem {n : Nat} (h1 : 1 ≤ n) (h5 : n ≤ 5) {s : Stp17} : s ∈ sortR (snapE n) ↔ ∃ g, s = (⟨g, 0⟩, 0) ∧ Wf g n ∧ Snp n g := by
  rw [sortR_mem]
  unfold snapE
  rw [List.mem_map]
  constructor
  · rintro ⟨g, hg, rfl⟩
    exact ⟨g, rfl, (snap_mem h1 h5).1 hg⟩
  · rintro ⟨g, rfl, hg⟩
    exact ⟨g, (snap_mem h1 h5).2 hg, rfl⟩
theorem snap_lens : ((List.range 5).all fun n => decide (0 < (snapL (n + 1)).length) && decide ((snapL (n + 1)).length ≤ 4096)) = true := by decide +kernel
def KeyZ (k : Nat) : Prop := k = 0
theorem snap_next {n : Nat} (h1 : 1 ≤ n) (h5 : n ≤ 5) : ∀ k, KeyZ k → ∀ s ∈ sortR (snapE n), KeyZ s.2 := fun _ _ s hs => by
  obtain ⟨g, rfl, _⟩ := (snapE_mem h1 h5).1 hs
  rfl
theorem snap_good {n : Nat} (h1 : 1 ≤ n) (h5 : n ≤ 5) : GoodE (fun _ => sortR (snapE n)) KeyZ n where
  ne := fun _ _ h => by
    have t := List.all_eq_true.1 snap_lens (n - 1) (List.mem_range.2 (by omega))
    rw [show n - 1 + 1 = n by omega] at t
    simp only [Bool.and_eq_true, decide_eq_true_eq] at t
    have h2 := congrArg List.length h
    have h2 : (sortR (snapE n)).length = 0 := h2
    rw [(sortR_perm _).length_eq] at h2
    unfold snapE at h2
    rw [List.length_map] at h2
    omega
  chk := fun _ _ s hs => by
    obtain ⟨g, rfl, w, _⟩ := (snapE_mem h1 h5).1 hs
    refine ⟨?_, w.n_eq⟩
    unfold rchk
    rw [if_pos (wf_chk w)]
    show pchk g.n ((0 : Nat) : Int) = 0
    rw [w.n_eq]
    exact pchk_okN h1 h5 (Nat.two_pow_pos _)
  asc := fun _ _ => by
    refine asc_ofR ?_ fun x hx y hy e => ?_
    · unfold snapE
      refine List.Pairwise.map _ ?_ ((snap_perm h1 h5).nodup_iff.2 (List.Pairwise.filter _ (every_nodup h5)))
      intro a b hab e
      injection e with e _
      injection e with e _
      exact hab e
    · obtain ⟨g, _, rfl⟩ := List.mem_map.1 hx
      obtain ⟨g', _, rfl⟩ := List.mem_map.1 hy
      exact Prod.ext e rfl
  grow := fun _ _ s hs t ht => by
    obtain ⟨g, rfl, _⟩ := (snapE_mem h1 h5).1 hs
    obtain ⟨g', rfl, _⟩ := (snapE_mem h1 h5).1 ht
    show inside ((0 : Nat) : Int) ((0 : Nat) : Int) = true
    rw [inside_n17 (by decide) (by decide)]
    rfl
/-- What is known of a snapshot adversary. -/
structure SnpA (n : Nat) (A : Adv) : Prop where
  eq : snapA n = (A, 0)
  sz : A.n = n
  chk : achk A = 0
  mv : movesN A ≤ 4096
  allows : ∀ l, (∀ r ∈ l, RdN n r) → (0 ≤ after A 0 l ↔ ∀ r ∈ l, r.f = 0 ∧ Snp n r.g)
theorem chain_snap {n : Nat} (h1 : 1 ≤ n) (h5 : n ≤ 5) : ∀ (l : List Rd) (k : Nat), (∀ r ∈ l, RdN n r) → (Chain (fun _ => sortR (snapE n)) k l ↔ ∀ r ∈ l, r.f = 0 ∧ Snp n r.g)
  | [], _, _ => ⟨fun _ _ h => (nomatch h), fun _ => trivial⟩
  | r :: l, k, hl => by
    have hr := hl r (List.mem_cons_self ..)
    have ih := fun k => chain_snap h1 h5 l k fun x hx => hl x (List.mem_cons_of_mem _ hx)
    show (∃ s ∈ sortR (snapE n), s.1 = r ∧ Chain (fun _ => sortR (snapE n)) s.2 l) ↔ _
    rw [List.forall_mem_cons]
    constructor
    · rintro ⟨s, hs, rfl, hc⟩
      obtain ⟨g, rfl, w, d⟩ := (snapE_mem h1 h5).1 hs
      exact ⟨⟨rfl, d⟩, (ih _).1 hc⟩
    · rintro ⟨⟨hf, hd⟩, h⟩
      obtain ⟨g, fo⟩ := r
      have hf : fo = 0 := hf
      subst hf
      exact ⟨(⟨g, 0⟩, 0), (snapE_mem h1 h5).2 ⟨g, rfl, hr.wf, hd⟩, rfl, (ih _).2 h⟩
theorem snpA {n : Nat} (h1 : 1 ≤ n) (h5 : n ≤ 5) : ∃ A, SnpA n A := by
  have hlen : (sortR (snapE n)).length ≤ 4096 := by
    have t := List.all_eq_true.1 snap_lens (n - 1) (List.mem_range.2 (by omega))
    rw [show n - 1 + 1 = n by omega] at t
    simp only [Bool.and_eq_true, decide_eq_true_eq] at t
    rw [(sortR_perm _).length_eq]
    unfold snapE
    rw [List.length_map]
    exact t.2
  have hkey : ∀ l : List Nat, l.Nodup → (∀ x ∈ l, KeyZ x) → l.length ≤ 1 := fun l a b => nodup_few 1 l a fun x hx => by have := b x hx; unfold KeyZ at this; omega
  have hz : (buildA (fun _ => sortR (snapE n)) n).2 = 0 := buildA_zero (K := KeyZ) (M := 4096) (L := 1) rfl (snap_next h1 h5) (fun _ _ => hlen) hkey (by decide) (by decide)
  obtain ⟨ks, hb⟩ := buildA_built (K := KeyZ) rfl (snap_next h1 h5) hz
  have hG := snap_good h1 h5
  have hL : ks.length ≤ 256 := Nat.le_trans (hkey ks hb.inv.nd hb.inv.all) (by decide)
  have hc := hb.chk hG h1 h5 hL
  refine ⟨(buildA (fun _ => sortR (snapE n)) n).1, ?_, hb.n, hc, hb.inv.few, fun l hl => (hb.allows hG.one l).trans (chain_snap h1 h5 l 0 hl)⟩
  unfold snapA
  rw [if_neg (by omega), Int.toNat_natCast]
  exact Prod.ext rfl hz
end Go.Proofs.Ytnhgdjiljjpgmaa
