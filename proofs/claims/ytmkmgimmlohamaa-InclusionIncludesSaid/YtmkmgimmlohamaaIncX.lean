/-
  The program's Extra, walked.
  Conditions: as each theorem states.
-/
import Derived.Test.YtmkmgimmlohamaaIncV
import Derived.Test.YtmkmgimmlohamaaIncR
import Derived.Deep.CutRange
namespace Go.Proofs.Ytmkmgimmlohamaa
open Go.RowKit

/-- The moves of the first adversary's state; none without a state. -/
def ownS (A : Adv) (x : Int) : List Mv := if x < 0 then [] else A.st.getD x.toNat []
/-- The pairs to which the moves of the second adversary lead. -/
def stepX (A B : Adv) (p : Int × Int) : List (Int × Int) := (B.st.getD p.2.toNat []).map fun m => (toL (ownS A p.1) m.r, m.to)
/-- How many words with k rounds from a pair are words of the second and not of the first. -/
def exN (A B : Adv) : Nat → Int × Int → Nat
  | 0, p => if p.1 < 0 then 1 else 0
  | k + 1, p => ((stepX A B p).map (exN A B k)).sum
/-- More than this are too many. -/
def bigM : Nat := 1048577
def extraS (A B : Adv) (rounds : Int) : Int × Int :=
  if bothI A B ≠ 0 then (0, bothI A B) else if rounds < 0 ∨ 6 < rounds then (0, 2) else if bigM ≤ exN A B rounds.toNat (0, 0) then (0, 17) else (exN A B rounds.toNat (0, 0), 0)
/-- The rounds of both that are rounds of the second. -/
theorem merge_right : ∀ (xs ys : List Mv), OkM xs → OkM ys → ((mergeS xs ys).filter fun s => decide (0 ≤ s.y)).map (fun s => (s.x, s.y)) = ys.map fun m => (toL xs m.r, m.to) := by
  intro xs ys
  induction xs, ys using mergeS.induct with
  | case1 => intro _ _; simp [mergeS]
  | case2 x xs ih =>
    intro hx hy
    rw [mergeS, List.filter_cons, if_neg (by simp), ih hx.tail hy]
    rfl
  | case3 y ys ih =>
    intro hx hy
    have h0 := hy.head.1
    rw [mergeS, List.filter_cons, if_pos (by simpa using h0), List.map_cons, ih hx hy.tail]
    rfl
  | case4 x xs y ys h1 ih =>
    intro hx hy
    rw [mergeS, if_pos h1, List.filter_cons, if_neg (by simp), ih hx.tail hy]
    refine List.map_congr_left fun m hm => ?_
    have hne : x.r ≠ m.r := by
      rcases List.mem_cons.1 hm with rfl | hm
      · exact rlt_ne (rlt_of h1)
      · exact rlt_ne (rlt_trans (rlt_of h1) (hy.head.2 m hm))
    rw [toL_cons, if_neg hne]
  | case5 x xs y ys h1 h2 ih =>
    intro hx hy
    have h0 := hy.head.1
    have hlt : rlt y.r x.r := rlt_of (by have := rcmp_anti x.r y.r; omega)
    have hxy : ∀ m ∈ x :: xs, m.r ≠ y.r := fun m hm => by
      rcases List.mem_cons.1 hm with rfl | hm
      · exact (rlt_ne hlt).symm
      · exact (rlt_ne (rlt_trans hlt (hx.head.2 m hm))).symm
    rw [mergeS, if_neg h1, if_pos h2, List.filter_cons, if_pos (by simpa using h0), List.map_cons, ih hx hy.tail, List.map_cons, toL_out hxy]
  | case6 x xs y ys h1 h2 ih =>
    intro hx hy
    have he : x.r = y.r := rcmp_zero'.1 (by omega)
    have h0 := hy.head.1
    rw [mergeS, if_neg h1, if_neg h2, List.filter_cons, if_pos (by simpa using h0), List.map_cons, ih hx.tail hy.tail, List.map_cons, toL_cons, if_pos he]
    congr 1
    refine List.map_congr_left fun m hm => ?_
    have hne : x.r ≠ m.r := by rw [he]; exact rlt_ne (hy.head.2 m hm)
    rw [toL_cons, if_neg hne]
theorem okM_own {A : Adv} (hA : achk A = 0) (x : Int) : OkM (ownS A x) := by
  unfold ownS
  by_cases h : x < 0
  · rw [if_pos h]; exact OkM.nil
  · rw [if_neg h]; exact okM_of hA _
theorem stepX_merge {A B : Adv} (hA : achk A = 0) (hB : achk B = 0) (p : Int × Int) : stepX A B p = ((mergeS (ownS A p.1) (B.st.getD p.2.toNat [])).filter fun s => decide (0 ≤ s.y)).map (fun s => (s.x, s.y)) := (merge_right _ _ (okM_own hA _) (okM_of hB _)).symm
/-- A map of pairs to numbers, weighed. -/
def wgt (f : Int × Int → Nat) (l : List ((Int × Int) × Nat)) : Nat := (l.map fun x => x.2 * f x.1).sum
def kv (l : List ((Int × Int) × Nat)) : List ((Int × Int) × Value) := l.map fun x => (x.1, .int .i64 x.2)
def nlook (l : List ((Int × Int) × Nat)) (q : Int × Int) : Nat := ((l.find? fun x => decide (x.1 = q)).map (·.2)).getD 0
def nput : List ((Int × Int) × Nat) → Int × Int → Nat → List ((Int × Int) × Nat)
  | [], q, v => [(q, v)]
  | x :: l, q, v => if q = x.1 then (q, v) :: l else x :: nput l q v
theorem kv_look (q : Int × Int) : ∀ l, (klook (kv l) q).getD (.int .i64 0) = .int .i64 (nlook l q)
  | [] => rfl
  | x :: l => by
    have ih := kv_look q l
    show (if q = x.1 then some (Value.int .i64 x.2) else klook (kv l) q).getD (.int .i64 0) = _
    unfold nlook
    rw [List.find?_cons]
    by_cases h : q = x.1
    · rw [if_pos h, decide_eq_true h.symm]; rfl
    · rw [if_neg h, decide_eq_false (Ne.symm h)]; exact ih
theorem kv_put (q : Int × Int) (v : Nat) : ∀ l, kput (kv l) q (.int .i64 v) = kv (nput l q v)
  | [] => rfl
  | x :: l => by
    have ih := kv_put q v l
    show kput ((x.1, Value.int .i64 x.2) :: kv l) q _ = _
    simp only [kput, nput]
    by_cases h : q = x.1
    · rw [if_pos h, if_pos h]; rfl
    · rw [if_neg h, if_neg h, ih]; rfl
theorem wgt_put (f : Int × Int → Nat) (q : Int × Int) (v : Nat) : ∀ l, wgt f (nput l q v) + nlook l q * f q = wgt f l + v * f q
  | [] => by simp [nput, wgt, nlook]
  | x :: l => by
    have ih := wgt_put f q v l
    unfold nlook at ih ⊢
    rw [List.find?_cons]
    simp only [nput]
    by_cases h : q = x.1
    · rw [if_pos h, decide_eq_true h.symm]
      simp only [wgt, List.map_cons, List.sum_cons, Option.map_some, Option.getD_some]
      rw [← h]
      omega
    · rw [if_neg h, decide_eq_false (Ne.symm h)]
      simp only [wgt, List.map_cons, List.sum_cons] at ih ⊢
      omega
/-- A number is added, up to the bound: what the weights say is the same up to the bound. -/
theorem wgt_add (f : Int × Int → Nat) (l : List ((Int × Int) × Nat)) (q : Int × Int) (n c : Nat) (hn : nlook l q ≤ bigM) : min (wgt f (nput l q (min (nlook l q + n) bigM)) + c) bigM = min (wgt f l + n * f q + c) bigM := by
  have h := wgt_put f q (min (nlook l q + n) bigM) l
  rcases Nat.lt_or_ge (nlook l q + n) bigM with h1 | h1
  · rw [Nat.min_eq_left (Nat.le_of_lt h1), Nat.add_mul] at h
    rw [Nat.min_eq_left (Nat.le_of_lt h1)]
    have e : wgt f (nput l q (nlook l q + n)) = wgt f l + n * f q := by omega
    rw [e]
  · rw [Nat.min_eq_right h1] at h ⊢
    rcases Nat.eq_zero_or_pos (f q) with h0 | h0
    · rw [h0] at h ⊢
      have e : wgt f (nput l q bigM) = wgt f l + n * 0 := by omega
      rw [e]
    · have h2 : bigM * 1 ≤ bigM * f q := Nat.mul_le_mul_left _ h0
      have h3 : nlook l q * f q ≤ bigM * f q := Nat.mul_le_mul_right _ hn
      have h4 : bigM * f q ≤ (nlook l q + n) * f q := Nat.mul_le_mul_right _ h1
      rw [Nat.add_mul] at h4
      have h5 : nlook l q * f q ≤ wgt f l := by
        clear h h1 hn h2 h3 h4
        unfold nlook
        induction l with
        | nil => simp
        | cons x l ih =>
          rw [List.find?_cons]
          by_cases hx : x.1 = q
          · rw [decide_eq_true hx]
            simp only [wgt, List.map_cons, List.sum_cons, Option.map_some, Option.getD_some]
            rw [hx]
            omega
          · rw [decide_eq_false hx]
            simp only [wgt, List.map_cons, List.sum_cons] at ih ⊢
            exact Nat.le_trans ih (Nat.le_add_left ..)
      rw [Nat.min_eq_right (by omega), Nat.min_eq_right (by omega)]
theorem nlook_put (l : List ((Int × Int) × Nat)) (q : Int × Int) (v : Nat) (h : ∀ x ∈ l, x.2 ≤ bigM) (hv : v ≤ bigM) : ∀ x ∈ nput l q v, x.2 ≤ bigM := by
  induction l with
  | nil => intro x hx; simp only [nput, List.mem_singleton] at hx; rw [hx]; exact hv
  | cons y l ih =>
    intro x hx
    simp only [nput] at hx
    by_cases hq : q = y.1
    · rw [if_pos hq] at hx
      rcases List.mem_cons.1 hx with rfl | hx
      · exact hv
      · exact h x (List.mem_cons_of_mem _ hx)
    · rw [if_neg hq] at hx
      rcases List.mem_cons.1 hx with rfl | hx
      · exact h _ (List.mem_cons_self ..)
      · exact ih (fun z hz => h z (List.mem_cons_of_mem _ hz)) x hx
theorem nput_mem (l : List ((Int × Int) × Nat)) (q : Int × Int) (v : Nat) : ∀ x ∈ nput l q v, x.1 = q ∨ x ∈ l := by
  induction l with
  | nil => intro x hx; simp only [nput, List.mem_singleton] at hx; rw [hx]; exact .inl rfl
  | cons y l ih =>
    intro x hx
    simp only [nput] at hx
    by_cases hq : q = y.1
    · rw [if_pos hq] at hx
      rcases List.mem_cons.1 hx with rfl | hx
      · exact .inl rfl
      · exact .inr (List.mem_cons_of_mem _ hx)
    · rw [if_neg hq] at hx
      rcases List.mem_cons.1 hx with rfl | hx
      · exact .inr (List.mem_cons_self ..)
      · rcases ih x hx with h | h
        · exact .inl h
        · exact .inr (List.mem_cons_of_mem _ h)
theorem nlook_le {l : List ((Int × Int) × Nat)} (h : ∀ x ∈ l, x.2 ≤ bigM) (q : Int × Int) : nlook l q ≤ bigM := by
  unfold nlook
  cases hf : l.find? fun x => decide (x.1 = q) with
  | none => simp
  | some x => exact h x (List.mem_of_find?_eq_some hf)
theorem wgt_app (f : Int × Int → Nat) (l m : List ((Int × Int) × Nat)) : wgt f (l ++ m) = wgt f l + wgt f m := by unfold wgt; rw [List.map_append, List.sum_append]
theorem wgt_cons (f : Int × Int → Nat) (x : (Int × Int) × Nat) (m : List ((Int × Int) × Nat)) : wgt f (x :: m) = x.2 * f x.1 + wgt f m := rfl
/-- The pairs are states. -/
def okX (A B : Adv) (p : Int × Int) : Prop := p.1 < A.L ∧ 0 ≤ p.2 ∧ p.2 < B.L
theorem ownS_bd {A : Adv} (hA : achk A = 0) {x : Int} (hx : x < A.L) (r : Rd) : toL (ownS A x) r < A.L := by
  unfold ownS
  by_cases h : x < 0
  · rw [if_pos h, toL_nil]; have := (achk_zero hA).2.2.1; omega
  · rw [if_neg h]; exact (toL_bd hA (s := x.toNat) (by omega) r).2
theorem okX_step {A B : Adv} (hA : achk A = 0) (hB : achk B = 0) {p : Int × Int} (h : okX A B p) {e : St} (he : e ∈ mergeS (ownS A p.1) (B.st.getD p.2.toNat [])) (hy : 0 ≤ e.y) : okX A B (e.x, e.y) := by
  obtain ⟨h1, h2, h3⟩ := h
  obtain ⟨_, k2, k3⟩ := (merge_mem _ _ (okM_own hA _) (okM_of hB _) e).1 he
  refine ⟨?_, hy, ?_⟩
  · show e.x < _
    rw [k2]; exact ownS_bd hA h1 _
  · show e.y < _
    rw [k3]; exact (toL_bd hB (s := p.2.toNat) (by omega) _).2
/-- What is left of a pair's rounds, weighed. -/
def wst (f : Int × Int → Nat) (L : List St) : Nat := ((L.filter fun s => decide (0 ≤ s.y)).map fun s => f (s.x, s.y)).sum
theorem wst_cons (f : Int × Int → Nat) (e : St) (L : List St) : wst f (e :: L) = (if 0 ≤ e.y then f (e.x, e.y) else 0) + wst f L := by
  unfold wst
  rw [List.filter_cons]
  by_cases h : 0 ≤ e.y
  · rw [if_pos (by simpa using h), if_pos h]; rfl
  · rw [if_neg (by simpa using h), if_neg h]; simp
theorem exN_succ {A B : Adv} (hA : achk A = 0) (hB : achk B = 0) (k : Nat) (p : Int × Int) : exN A B (k + 1) p = wst (exN A B k) (mergeS (ownS A p.1) (B.st.getD p.2.toNat [])) := by
  show ((stepX A B p).map (exN A B k)).sum = _
  rw [stepX_merge hA hB, List.map_map]
  rfl
end Go.Proofs.Ytmkmgimmlohamaa

namespace Go.Proofs.Ytmkmgimmlohamaa
open Go.RowKit
attribute [local go_sem] Oper.semAt_some

def exF1 (z b N k : Nat) (us : Nat → Value) (ds : List Deferred) : Act := { tmps := #[us 0, us 1, us 2, .pointer (some ⟨z, 0, none⟩), .pointer (some ⟨z + 1, 0, none⟩), us 5, us 6, us 7, us 8, .map (some b), us 10, us 11, us 12, us 13, us 14, us 15, us 16, us 17, us 18, us 19, us 20, us 21, us 22, us 23, us 24, us 25, us 26, us 27, us 28, us 29, us 30, us 31, us 32, .int .i64 N, .int .i64 k, us 35, us 36, us 37, us 38, us 39, us 40, us 41, us 42, us 43, us 44, us 45, us 46, us 47, us 48, us 49, us 50, us 51, us 52, us 53, us 54, us 55, us 56, us 57, us 58, us 59, us 60, us 61, us 62, us 63, us 64, us 65, us 66, us 67, us 68, us 69, us 70, us 71, us 72, us 73, us 74, us 75, us 76, us 77, us 78, us 79, us 80, us 81, us 82, us 83, us 84, us 85, us 86, us 87, us 88, us 89, us 90, us 91, us 92, us 93, us 94], defers := ds }
def exF2 (z mx r N k : Nat) (us : Nat → Value) (ds : List Deferred) : Act := { tmps := #[us 0, us 1, us 2, .pointer (some ⟨z, 0, none⟩), .pointer (some ⟨z + 1, 0, none⟩), us 5, us 6, us 7, us 8, us 9, .pointer (some ⟨mx + 1, 0, none⟩), us 11, us 12, us 13, us 14, us 15, us 16, us 17, us 18, us 19, us 20, us 21, us 22, us 23, us 24, us 25, us 26, us 27, us 28, us 29, us 30, us 31, us 32, .int .i64 N, .int .i64 k, us 35, us 36, us 37, .pointer (some ⟨r, 0, none⟩), us 39, us 40, us 41, us 42, us 43, us 44, us 45, us 46, us 47, us 48, us 49, us 50, us 51, us 52, us 53, us 54, us 55, us 56, us 57, us 58, us 59, us 60, us 61, us 62, us 63, us 64, us 65, us 66, us 67, us 68, us 69, us 70, us 71, us 72, us 73, us 74, us 75, us 76, us 77, us 78, us 79, us 80, us 81, us 82, us 83, us 84, us 85, us 86, us 87, us 88, us 89, us 90, us 91, us 92, us 93, us 94], defers := ds }
def exF3 (r s : Nat) (us : Nat → Value) (ds : List Deferred) : Act := { tmps := #[us 0, us 1, us 2, us 3, us 4, us 5, us 6, us 7, us 8, us 9, us 10, us 11, us 12, us 13, us 14, .int .i64 s, us 16, us 17, us 18, us 19, us 20, us 21, us 22, us 23, us 24, us 25, us 26, us 27, us 28, us 29, us 30, us 31, us 32, us 33, us 34, us 35, us 36, us 37, us 38, us 39, us 40, us 41, us 42, us 43, us 44, us 45, us 46, us 47, us 48, us 49, us 50, us 51, us 52, us 53, us 54, us 55, us 56, us 57, us 58, us 59, us 60, us 61, us 62, us 63, us 64, us 65, us 66, us 67, us 68, us 69, us 70, us 71, us 72, us 73, us 74, us 75, us 76, us 77, us 78, .pointer (some ⟨r, 0, none⟩), us 80, us 81, us 82, us 83, us 84, us 85, us 86, us 87, us 88, us 89, us 90, us 91, us 92, us 93, us 94], defers := ds }
/-- The adversaries' boxes. -/
structure ExW (A B : Adv) (w : World) (z : Nat) (p : Option Addr) (c : Nat) (q : Option Addr) (d : Nat) (W : World) : Prop where
  ext : Ext w W
  two : TwoBox A B z p c q d W
theorem ExW.mono {A B : Adv} {w : World} {z : Nat} {p : Option Addr} {c : Nat} {q : Option Addr} {d : Nat} {W W' : World} (h : ExW A B w z p c q d W) (hE : Ext W W') : ExW A B w z p c q d W' := ⟨h.ext.trans hE, h.two.ext hE⟩
theorem ExW.of {A B : Adv} {w : World} {z : Nat} {p : Option Addr} {c : Nat} {q : Option Addr} {d : Nat} {W W' : World} (h : ExW A B w z p c q d W) (hE : Ext w W') (hb : ∀ b, b ≤ z + 1 → W'.heap[b]? = W.heap[b]?) : ExW A B w z p c q d W' :=
  ⟨hE, (hb _ (by omega)).trans h.two.a, (hb _ (by omega)).trans h.two.b⟩
/-- Numbers within the bound, at pairs of states. -/
def OkL (A B : Adv) (l : List ((Int × Int) × Nat)) : Prop := ∀ x ∈ l, x.2 ≤ bigM ∧ okX A B x.1
def ExI1 (A B : Adv) (w : World) (z : Nat) (p : Option Addr) (c : Nat) (q : Option Addr) (d N T : Nat) (n : Nat) (a : Act) (W : World) : Prop :=
  ∃ (ds : List Deferred) (us : Nat → Value) (b k : Nat) (mp : List ((Int × Int) × Nat)), a = exF1 z b N k us ds ∧ n = N - k ∧ k ≤ N ∧ ExW A B w z p c q d W ∧ KS penc W b (kv mp) ∧ OkL A B mp ∧ min (wgt (exN A B (N - k)) mp) bigM = T ∧ z + 1 < b ∧ Marks z W W.heap.size ds
theorem ExI1.intro {A B : Adv} {w : World} {z : Nat} {p : Option Addr} {c : Nat} {q : Option Addr} {d N T : Nat} {n : Nat} {a : Act} {W : World} {ds : List Deferred} {b k : Nat} {mp : List ((Int × Int) × Nat)}
    (h1 : a = exF1 z b N k (fun i => a.tmps.getD i undef) ds) (h2 : n = N - k) (h3 : k ≤ N) (h4 : ExW A B w z p c q d W) (h5 : KS penc W b (kv mp)) (h6 : OkL A B mp) (h7 : min (wgt (exN A B (N - k)) mp) bigM = T) (h8 : z + 1 < b) (h9 : Marks z W W.heap.size ds) : ExI1 A B w z p c q d N T n a W :=
  ⟨ds, _, b, k, mp, h1, h2, h3, h4, h5, h6, h7, h8, h9⟩
def ExI2 (A B : Adv) (w : World) (z : Nat) (p : Option Addr) (c : Nat) (q : Option Addr) (d N k T b mx r : Nat) (mp : List ((Int × Int) × Nat)) (n : Nat) (a : Act) (W : World) : Prop :=
  ∃ (ds : List Deferred) (us : Nat → Value) (nx left : List ((Int × Int) × Nat)), a = exF2 z mx r N k us ds ∧ n = left.length ∧ ExW A B w z p c q d W ∧ KR penc W b r (kv mp) (kv left) ∧ OkL A B left ∧ Box W (mx + 1) 92 (.map (some mx)) ∧ KS penc W mx (kv nx) ∧ OkL A B nx ∧
    min (wgt (exN A B (N - k - 1)) nx + wgt (exN A B (N - k - 1 + 1)) left) bigM = T ∧ Marks z W W.heap.size ds
theorem ExI2.intro {A B : Adv} {w : World} {z : Nat} {p : Option Addr} {c : Nat} {q : Option Addr} {d N k T b mx r : Nat} {mp : List ((Int × Int) × Nat)} {n : Nat} {a : Act} {W : World} {ds : List Deferred} {nx left : List ((Int × Int) × Nat)}
    (h1 : a = exF2 z mx r N k (fun i => a.tmps.getD i undef) ds) (h2 : n = left.length) (h3 : ExW A B w z p c q d W) (h4 : KR penc W b r (kv mp) (kv left)) (h5 : OkL A B left) (h6 : Box W (mx + 1) 92 (.map (some mx))) (h7 : KS penc W mx (kv nx)) (h8 : OkL A B nx)
    (h9 : min (wgt (exN A B (N - k - 1)) nx + wgt (exN A B (N - k - 1 + 1)) left) bigM = T) (h10 : Marks z W W.heap.size ds) : ExI2 A B w z p c q d N k T b mx r mp n a W :=
  ⟨ds, _, nx, left, h1, h2, h3, h4, h5, h6, h7, h8, h9, h10⟩
def ExI3 (w : World) (A B : Adv) (z T b r : Nat) (mp : List ((Int × Int) × Nat)) (n : Nat) (a : Act) (W : World) : Prop :=
  ∃ (ds : List Deferred) (us : Nat → Value) (s : Nat) (left : List ((Int × Int) × Nat)), a = exF3 r s us ds ∧ n = left.length ∧ Ext w W ∧ KR penc W b r (kv mp) (kv left) ∧ OkL A B left ∧ s ≤ bigM ∧ min (s + wgt (exN A B 0) left) bigM = T ∧ Marks z W W.heap.size ds
theorem ExI3.intro {w : World} {A B : Adv} {z T b r : Nat} {mp : List ((Int × Int) × Nat)} {n : Nat} {a : Act} {W : World} {ds : List Deferred} {s : Nat} {left : List ((Int × Int) × Nat)}
    (h1 : a = exF3 r s (fun i => a.tmps.getD i undef) ds) (h2 : n = left.length) (h3 : Ext w W) (h4 : KR penc W b r (kv mp) (kv left)) (h5 : OkL A B left) (h6 : s ≤ bigM) (h7 : min (s + wgt (exN A B 0) left) bigM = T) (h8 : Marks z W W.heap.size ds) : ExI3 w A B z T b r mp n a W :=
  ⟨ds, _, s, left, h1, h2, h3, h4, h5, h6, h7, h8⟩
/-- In the range over the steps of a pair: what holds ahead of step j; f weighs what was counted, n is the pair's number, C what is still to come. -/
structure ExJ (A B : Adv) (w : World) (z : Nat) (p : Option Addr) (c : Nat) (q : Option Addr) (d b r mx pb n C T : Nat) (f : Int × Int → Nat) (mp left : List ((Int × Int) × Nat)) (ds : List Deferred) (L : List St) (j : Nat) (nx : List ((Int × Int) × Nat)) (O : Nat → Prop) (V : World) : Prop where
  w : ExW A B w z p c q d V
  k : KR penc V b r (kv mp) (kv left)
  x : Box V (mx + 1) 92 (.map (some mx))
  kn : KS penc V mx (kv nx)
  nb : Box V (pb + 1) 3 (.int .i64 n)
  ok : OkL A B nx
  t : min (wgt f nx + n * wst f (L.drop j) + C) bigM = T
  mks : Marks z V pb ds
  o : ∀ b, O b → pb + 1 < b
  pz : pb + 1 < V.heap.size
  s1 : z + 1 < b
  s2 : b < mx
  s3 : mx + 1 < r
  s4 : r < pb
theorem ExJ.rely {A B : Adv} {w : World} {z : Nat} {p : Option Addr} {c : Nat} {q : Option Addr} {d b r mx pb n C T : Nat} {f : Int × Int → Nat} {mp left : List ((Int × Int) × Nat)} {ds : List Deferred} {L : List St} {j : Nat} {nx : List ((Int × Int) × Nat)} {O O' : Nat → Prop} {V V' : World} {Bz : Nat}
    (h : ExJ A B w z p c q d b r mx pb n C T f mp left ds L j nx O V) (hz : w.heap.size = z) (hB : pb + 1 < Bz) (hC : OffC Bz O V V') (hG : Grow O O' V V') : ExJ A B w z p c q d b r mx pb n C T f mp left ds L j nx O' V' := by
  have s1 := h.s1
  have s2 := h.s2
  have s3 := h.s3
  have s4 := h.s4
  have hpz := h.pz
  have no : ∀ b, b ≤ pb + 1 → ¬ O b := fun b hb ho => by have := h.o b ho; omega
  have lo : ∀ b, b ≤ pb + 1 → V'.heap[b]? = V.heap[b]? := fun b hb => hC.low b (by omega) (by omega) (no _ hb)
  refine ⟨h.w.of (h.w.ext.offc hC (by omega) (fun b hb => by have := h.o b hb; omega)) fun b hb => lo _ (by omega), h.k.of_block (lo _ (by omega)) (lo _ (by omega)), (lo _ (by omega)).trans h.x, h.kn.of_block (lo _ (by omega)), (lo _ (by omega)).trans h.nb, h.ok, h.t, h.mks.of_heap (fun b _ hb hh => lo _ (by omega)), fun b hb => ?_, ?_, s1, s2, s3, s4⟩
  · rcases (hG b hb).1 with h1 | h1
    · exact h.o b h1
    · omega
  · have := hC.size; omega
theorem kv_split {l : List ((Int × Int) × Nat)} {u c : List ((Int × Int) × Value)} {x : (Int × Int) × Value} (h : kv l = u ++ x :: c) : ∃ a y b, l = a ++ y :: b ∧ u = kv a ∧ c = kv b ∧ x = (y.1, .int .i64 y.2) := by
  obtain ⟨la, lr, h1, h2, h3⟩ := List.map_eq_append_iff.1 h
  obtain ⟨y, lc, h4, h5, h6⟩ := List.map_eq_cons_iff.1 h3
  exact ⟨la, y, lc, by rw [h1, h4], h2.symm, h6.symm, h5.symm⟩

theorem row_nil (W : World) : Row Mv.cells 8 W (.slice none 0 0) [] := ⟨none, 0, rfl, Nat.le_refl _, ⟨by omega, by simp⟩, fun h => by simp at h⟩

set_option maxRecDepth 16000 in
set_option maxHeartbeats 4000000 in
theorem extra_any (A B : Adv) (rounds : Int) (u v : Value) (w : World) (hA : AdvRep w u A) (hB : AdvRep w v B) (hmA : movesN A ≤ 4611686018427387904) (hmB : movesN B ≤ 4611686018427387904) :
    Calls Try.prog 23 #[u, v, .int .i64 rounds] w fun e w' => e = .returned (.tuple #[.int .i64 (extraS A B rounds).1, .int .i64 (extraS A B rounds).2]) ∧ Ext w w' := by
  have HA := hide hA
  have HB := hide hB
  obtain ⟨p, c, rfl, -, -, hatA⟩ := hA.all_
  obtain ⟨q, d, rfl, -, -, hatB⟩ := hB.all_
  have HATA := hide hatA
  have HATB := hide hatB
  clear hA hB hatA hatB
  have HN := hide (TwoBox.new A B p c q d w)
  have HE1 := hide (((Ext.refl w).alloc (.cells #[.int .i64 A.n, .slice p A.L c] 24)).alloc (.cells #[.int .i64 B.n, .slice q B.L d] 24))
  obtain ⟨W1, hW1⟩ : ∃ W1, (w.alloc (.cells #[.int .i64 A.n, .slice p A.L c] 24)).alloc (.cells #[.int .i64 B.n, .slice q B.L d] 24) = W1 := ⟨_, rfl⟩
  rw [hW1] at HN HE1
  have HW1 := hide hW1
  clear hW1
  refine calls_of_wp_m Try.func23 rfl ?_
  simp only [Try.ntmps23, List.size_toArray, List.length_cons, List.length_nil, Nat.reduceAdd, Nat.reduceSub, Array.replicate_succ, Array.replicate_zero, List.push_toArray, List.append_toArray, List.nil_append, List.cons_append]
  obtain ⟨z, hz⟩ : ∃ z, w.heap.size = z := ⟨_, rfl⟩
  have HZ := hide hz
  rw [hz] at HN
  go_wp2_with fail
  rw [HW1.out]
  refine (both_any A B _ _ W1 (HA.out.ext HE1.out) (HB.out.ext HE1.out) hmA hmB).mono ?_
  rintro e w2 ⟨rfl, hE2⟩
  clear hz
  have HN2 := hide (HN.out.ext hE2)
  have HE2 := hide (HE1.out.trans hE2)
  clear hE2 HN HE1 HW1 W1
  by_cases hb : bothI A B = 0
  case neg =>
    have hd : (bothI A B != 0) = true := by simp [hb]
    have HR : Hid (extraS A B rounds = (0, bothI A B)) := if_pos hb
    clear hb
    generalize bothI A B = res at hd HR ⊢
    go_wp2_with fail
    refine leave_marks (B := z) [] 0 _ trivial (v := .tuple #[.int .i64 0, .int .i64 res]) (fun W' hc => ?_) fun W' hc => ?_
    · simp [results, go_sem]
    · exact ⟨by rw [HR.out], HE2.out.chg hc (by have := HZ.out; omega)⟩
  case pos =>
  have HB0 := hide hb
  rw [hb]
  clear hb
  have HXX : Hid (extraS A B rounds = (if rounds < 0 ∨ 6 < rounds then (0, 2) else if bigM ≤ exN A B rounds.toNat (0, 0) then (0, 17) else ((exN A B rounds.toNat (0, 0) : Nat), 0) : Int × Int)) := if_neg (fun k => k HB0.out)
  by_cases hr0 : rounds < 0
  · have d0 : decide (rounds < 0) = true := decide_eq_true hr0
    have HR := hide (HXX.out.trans (if_pos (.inl hr0)))
    clear hr0
    go_wp2_with fail
    refine leave_marks (B := z) [] 0 _ trivial (v := .tuple #[.int .i64 0, .int .i64 2]) (fun W' hc => ?_) fun W' hc => ?_
    · simp [results, go_sem]
    · exact ⟨by rw [HR.out], HE2.out.chg hc (by have := HZ.out; omega)⟩
  have d0 : decide (rounds < 0) = false := decide_eq_false hr0
  by_cases hr1 : 6 < rounds
  · have d1 : decide (6 < rounds) = true := decide_eq_true hr1
    have HR := hide (HXX.out.trans (if_pos (.inr hr1)))
    clear hr0 hr1
    go_wp2_with fail
    refine leave_marks (B := z) [] 0 _ trivial (v := .tuple #[.int .i64 0, .int .i64 2]) (fun W' hc => ?_) fun W' hc => ?_
    · simp [results, go_sem]
    · exact ⟨by rw [HR.out], HE2.out.chg hc (by have := HZ.out; omega)⟩
  have d1 : decide (6 < rounds) = false := decide_eq_false hr1
  have HX2 := hide (HXX.out.trans (if_neg (by omega)))
  obtain ⟨N, rfl⟩ := Int.eq_ofNat_of_zero_le (show 0 ≤ rounds by omega)
  have hN : N ≤ 6 := by omega
  simp only [Int.toNat_natCast] at HX2
  have hub : ∀ W, (underlying 92).run Try.prog W = .ok (.map 45 3) W := fun W => by kernel_rfl
  have HUB := hide hub
  have hmm := @run_makeMap Try.prog
  have hk0 : KS penc (w2.alloc (.map #[] 0)) w2.heap.size [] := KS.new _ _
  obtain ⟨om, ⟨es, cl, rfl⟩, hput, hks⟩ := hk0.put pkey_ok hub (0, 0) (.int .i64 1)
  unfold penc at hput
  have HKS := hide hks
  clear hk0 hks hub hr0 hr1 HXX
  obtain ⟨b0, hb0⟩ : ∃ b0, w2.heap.size = b0 := ⟨_, rfl⟩
  rw [hb0] at hput HKS
  have HB0Z := hide hb0
  go_wp2_with fail
  have HW0 : Hid (ExW A B w z p c q d ((w2.alloc (.map #[] 0)).putObj b0 (.map es cl)) ∧ KS penc ((w2.alloc (.map #[] 0)).putObj b0 (.map es cl)) b0 (kv [((0, 0), 1)])) := by
    refine ⟨⟨((HE2.out.alloc _).putObj (by have := HE2.out.size; have := HB0Z.out; omega) _), ?_⟩, HKS.out⟩
    have hb0 := HB0Z.out
    have l1 := lt_of_heap HN2.out.b
    exact ⟨(World.putObj_heap_other (by omega)).trans ((Below.heap_alloc _ _ _ (by omega)).trans HN2.out.a), (World.putObj_heap_other (by omega)).trans ((Below.heap_alloc _ _ _ (by omega)).trans HN2.out.b)⟩
  have HZB : Hid (z + 1 < b0) := by have l1 := lt_of_heap HN2.out.b; have := HB0Z.out; show _ < _; omega
  have HOK0 : Hid (OkL A B [((0, 0), 1)]) := fun x hx => by
    rw [List.mem_singleton.1 hx]
    exact ⟨by unfold bigM; decide, by have := (achk_zero (bothI_zero HB0.out).1).2.2.1; show (0 : Int) < _; omega, by show (0 : Int) ≤ 0; omega, by have := (achk_zero (bothI_zero HB0.out).2.1).2.2.1; show (0 : Int) < _; omega⟩
  have HT0 : Hid (min (wgt (exN A B (N - 0)) [((0, 0), 1)]) bigM = min (exN A B N (0, 0)) bigM) := by
    show _ = _
    rw [wgt_cons]; simp [wgt]
  obtain ⟨T, hT⟩ : ∃ T, min (exN A B N (0, 0)) bigM = T := ⟨_, rfl⟩
  rw [hT] at HT0
  have HTT := hide hT
  clear hT hput HKS HE2 HN2 d0 d1
  generalize (w2.alloc (.map #[] 0)).putObj b0 (.map es cl) = W0 at HW0 ⊢
  refine wp_loop_ghost_k (ExI1 A B w z p c q d N T) N ?_ ?_
  · exact ExI1.intro (k := 0) rfl rfl (by omega) HW0.out.1 HW0.out.2 HOK0.out HT0.out HZB.out trivial
  clear HW0 HOK0 HT0 HZB HB0Z
  clear hb0
  clear W0 b0 w2 es cl
  rintro n a wr ⟨ds, us, b, k, mp, rfl, hn, hk, hW, hK, hO, hT, hzb, hM⟩ J1 KK1 hJ1 hKK1
  have HJ1 := hide hJ1
  have HN1 := hide hn
  have HW := hide hW
  have HK := hide hK
  have HO := hide hO
  have HT := hide hT
  have HZB := hide hzb
  have HM := hide hM
  clear hJ1 hn hW hK hO hT hzb hM
  dsimp only [exF1]
  by_cases hlt : k < N
  case pos =>
    obtain ⟨mx, hmx⟩ : ∃ mx, wr.heap.size = mx := ⟨_, rfl⟩
    have hE3 := ((Ext.refl wr).alloc (.map #[] 0)).alloc (.cells #[.map (some mx)] 92)
    have hbx := Box.new (wr.alloc (.map #[] 0)) 92 (.map (some mx))
    have hkx := (KS.new penc wr).ext ((Ext.refl _).alloc (.cells #[.map (some mx)] 92))
    rw [World.size_alloc, hmx] at hbx
    rw [hmx] at hkx
    have hsz : ((wr.alloc (.map #[] 0)).alloc (.cells #[.map (some mx)] 92)).heap.size = mx + 2 := by simp [hmx]
    have HE3 := hide hE3
    have HBX := hide hbx
    have HKX := hide hkx
    have HSZ := hide hsz
    have HMX := hide hmx
    clear hE3 hbx hkx hsz
    go_upto_region 10 with fail
    generalize (wr.alloc (.map #[] 0)).alloc (.cells #[.map (some mx)] 92) = W3 at HE3 HBX HKX HSZ ⊢
    clear hmx
    go_wp2_with (first | (at_range; refine wpList_range_k _ rfl _ _ rfl 45 3 Try.underlying92 b (kv mp) rfl (HK.out.ext HE3.out) ?_; intro w5 hkr hE5 hs5; have HKR := hide hkr; have HE5 := hide hE5; have HS5 := hide hs5; clear hkr hE5 hs5) | go_in)
    obtain ⟨r, hr⟩ : ∃ r, W3.heap.size = r := ⟨_, rfl⟩
    rw [hr] at HKR
    rw [hr]
    have HR2 : Hid (r = mx + 2) := by show _ = _; rw [← hr]; exact HSZ.out
    have HW5 : Hid (ExW A B w z p c q d w5) := HW.out.mono (HE3.out.trans HE5.out)
    have HB5 : Hid (Box w5 (mx + 1) 92 (.map (some mx))) := HBX.out.ext HE5.out
    have HK5 : Hid (KS penc w5 mx (kv [])) := HKX.out.ext HE5.out
    have HM5 : Hid (Marks z w5 w5.heap.size ds) := (HM.out.of_heap (fun k _ hk _ => (HE3.out.trans HE5.out).b.block k hk)).top (HE3.out.trans HE5.out).size
    have HBM : Hid (b < mx) := by have := HK.out.lt; have := HMX.out; show _ < _; omega
    have HT5 : Hid (min (wgt (exN A B (N - k - 1)) [] + wgt (exN A B (N - k - 1 + 1)) mp) bigM = T) := by
      show _ = _
      rw [show N - k - 1 + 1 = N - k by omega, show wgt (exN A B (N - k - 1)) [] = 0 from rfl, Nat.zero_add]
      exact HT.out
    clear hr HE3 HE5 HBX HKX HW HK HM HT HS5 HSZ HMX W3
    refine wp_loop_ghost_k (ExI2 A B w z p c q d N k T b mx r mp) mp.length ?_ ?_
    · exact ExI2.intro rfl rfl HW5.out HKR.out HO.out HB5.out HK5.out (fun x hx => by cases hx) HT5.out HM5.out
    clear HW5 HB5 HK5 HM5 HT5 HKR HO
    clear wr w5 ds us
    rintro n2 a wr ⟨ds, us, nx, left, rfl, hn2, hW, hK, hO, hbx, hkn, hON, hT, hM⟩ J2 KK2 hJ2 hKK2
    have HJ2 := hide hJ2
    have HN2 := hide hn2
    have HW := hide hW
    have HK := hide hK
    have HO := hide hO
    have HBX := hide hbx
    have HKN := hide hkn
    have HON := hide hON
    have HT := hide hT
    have HM := hide hM
    clear hJ2 hn2 hW hK hO hbx hkn hON hT hM
    dsimp only [exF2]
    have x0 := HBX.out.cell
    have xz := HBX.out.lt
    go_wp2_with (first | (at_next; refine wpList_next_k _ rfl _ rfl b r (kv mp) (kv left) rfl HK.out ?_ ?_) | go_in)
    · intro hdone
      have hl0 : left = [] := by
        cases left with
        | nil => rfl
        | cons => simp [kv] at hdone
      subst hl0
      clear hdone
      go_wp2_with fail
      have hzb := HZB.out
      have hbm := HBM.out
      refine Handed.intro (N - (k + 1)) (by have := HN1.out; omega) (HJ1.out _ _ _ (ExI1.intro (k := k + 1) (b := mx) (mp := nx) (by go_num) rfl (by omega) HW.out HKN.out HON.out ?_ (by omega) HM.out))
      have := HT.out
      rw [show wgt (exN A B (N - k - 1 + 1)) [] = 0 from rfl, Nat.add_zero] at this
      rw [show N - (k + 1) = N - k - 1 by omega]
      exact this
    intro lu sp tq xv lc w1 hl hkr hgr hsz hen
    unfold penc at hen ⊢
    obtain ⟨la, y, lb, rfl, rfl, rfl, hy⟩ := kv_split hl
    obtain ⟨⟨ya, yb⟩, n⟩ := y
    injection hy with hy1 hy2
    injection hy1 with hy3 hy4
    subst hy2 hy3 hy4
    have hkr' : KR penc w1 b r (kv mp) (kv (la ++ lb)) := by unfold kv; rw [List.map_append]; exact hkr
    obtain ⟨hnb0, hok1, hok2, hok3⟩ := HO.out _ (List.mem_append_right _ (List.mem_cons_self ..))
    dsimp only at hnb0 hok1 hok2 hok3
    obtain ⟨t, rfl⟩ := Int.eq_ofNat_of_zero_le hok2
    have hnb : n ≤ 1048577 := hnb0
    have HKR := hide hkr'
    have hzb := HZB.out
    have hbm := HBM.out
    have hrm := HR2.out
    have HE1 : Hid (Ext w w1) := HW.out.ext.grown hgr (fun k hk => by injection hk with hk; have := HZ.out; omega)
    have hbk : ∀ b, b < wr.heap.size → b ≠ r → w1.heap[b]? = wr.heap[b]? := fun b hb hne => hgr.block _ hb (fun e => by injection e with e; exact hne e)
    have hxz := HBX.out.lt
    have HW1 : Hid (ExW A B w z p c q d w1) := HW.out.of HE1.out fun b hb => hbk b (by omega) (by omega)
    have HBX1 : Hid (Box w1 (mx + 1) 92 (.map (some mx))) := (hbk _ (by omega) (by omega)).trans HBX.out
    have HKN1 : Hid (KS penc w1 mx (kv nx)) := HKN.out.of_block (hbk _ (by omega) (by omega))
    have HM1 : Hid (Marks z w1 w1.heap.size ds) := by
      show Marks _ _ _ _
      rw [hsz]
      refine HM.out.of_heap fun b _ hb hh => hgr.block _ hb (fun e => ?_)
      injection e with e
      subst e
      obtain ⟨_, _, _, _, _, _, _, _, h4, _⟩ := HK.out
      rw [h4] at hh
      cases hh
    have HO1 : Hid (OkL A B (la ++ lb)) := fun x hx => HO.out x (by
      rcases List.mem_append.1 hx with h | h
      · exact List.mem_append_left _ h
      · exact List.mem_append_right _ (List.mem_cons_of_mem _ h))
    have HOX : Hid (okX A B (sp, (t : Int))) := ⟨hok1, hok2, hok3⟩
    have HN4 : Hid ((la ++ lb).length < n2) := by show _ < _; rw [HN2.out]; simp
    have HTB : Hid (min (wgt (exN A B (N - k - 1)) nx + n * wst (exN A B (N - k - 1)) (mergeS (ownS A sp) (B.st.getD t [])) + wgt (exN A B (N - k - 1 + 1)) (la ++ lb)) bigM = T) := by
      show _ = _
      have := HT.out
      rw [wgt_app, wgt_cons, exN_succ (bothI_zero HB0.out).1 (bothI_zero HB0.out).2.1] at this
      rw [wgt_app]
      simp only [Int.toNat_natCast] at this
      rw [← this]
      congr 1
      omega
    have hltB : t < B.L := by omega
    have HXL : Hid (sp < A.L) := hok1
    clear hl hkr hkr' hgr hsz HM HO HT HK HN2 HW HBX HKN hnb0 hok1 hok2 hok3 hbk hxz hzb hbm hrm x0 xz
    go_upto_region 14 with fail
    have hE := ((Ext.refl w1).alloc (.cells #[.int .i64 sp, .int .i64 t] 45)).alloc (.cells #[.int .i64 n] 3)
    have HEP := hide hE
    have HPB : Hid (((w1.alloc (.cells #[.int .i64 sp, .int .i64 t] 45)).alloc (.cells #[.int .i64 n] 3)).heap[w1.heap.size]? = some (.cells #[.int .i64 sp, .int .i64 t] 45 (0, 0))) := (Below.heap_alloc _ _ _ (by simp)).trans (heap_alloc_new w1 _)
    have HNB : Hid (Box ((w1.alloc (.cells #[.int .i64 sp, .int .i64 t] 45)).alloc (.cells #[.int .i64 n] 3)) (w1.heap.size + 1) 3 (.int .i64 n)) := by
      have := Box.new (w1.alloc (.cells #[.int .i64 sp, .int .i64 t] 45)) 3 (.int .i64 n)
      rwa [World.size_alloc] at this
    have HSZ : Hid (((w1.alloc (.cells #[.int .i64 sp, .int .i64 t] 45)).alloc (.cells #[.int .i64 n] 3)).heap.size = w1.heap.size + 2) := by show _ = _; simp
    generalize (w1.alloc (.cells #[.int .i64 sp, .int .i64 t] 45)).alloc (.cells #[.int .i64 n] 3) = Wp at hE HEP HPB HNB HSZ ⊢
    have HWP := hide (HW1.out.mono hE)
    have HKP := hide (HKR.out.ext hE)
    have HXP := hide (HBX1.out.ext hE)
    have HNP := hide (HKN1.out.ext hE)
    have HMP : Hid (Marks z Wp w1.heap.size ds) := HM1.out.of_heap (fun b _ hb _ => hE.b.block b hb)
    have HPR : Hid (r < w1.heap.size) := HKR.out.lt
    clear hE hen HEP
    obtain ⟨pb, hpb⟩ : ∃ pb, w1.heap.size = pb := ⟨_, rfl⟩
    rw [hpb] at HPB HNB HSZ HMP HPR
    rw [hpb]
    clear hpb HM1 HKR HW1 HBX1 HKN1 HE1
    clear w1
    have c0 := dcell HPB.out 0
    have cz := lt_of_heap HPB.out
    go_upto_if 46 with fail
    go_cut [13] from 39 to 75 (fun v V => V = Wp ∧ (∃ p n c, v = .slice p n c) ∧ Hid (Row Mv.cells 8 w v (ownS A sp)))
    case first =>
      by_cases hx : sp < 0
      · have hd : decide (0 ≤ sp) = false := decide_eq_false (by omega)
        have HOW : Hid (ownS A sp = []) := if_pos hx
        clear hx
        rw [hd]
        go_wp2_with fail
        go_meet
        case rel => exact ⟨rfl, ⟨_, _, _, rfl⟩, by rw [HOW.out]; exact row_nil w⟩
      · have hd : decide (0 ≤ sp) = true := decide_eq_true (by omega)
        have HOW : Hid (ownS A sp = A.st.getD sp.toNat []) := if_neg hx
        obtain ⟨s, rfl⟩ := Int.eq_ofNat_of_zero_le (show 0 ≤ sp by omega)
        have hls : s < A.L := by have := HXL.out; omega
        have hlA : (s : Int) < (A.L : Int) := by omega
        rw [Int.toNat_natCast] at HOW
        obtain ⟨ba, oa, rfl, hba, hsa⟩ := HATA.out (by omega)
        obtain ⟨qa, da, hca, -, -, hra, -⟩ := hsa s hls
        have x0 := hca Wp HWP.out.ext
        have xz : ba < Wp.heap.size := Nat.lt_of_lt_of_le hba HWP.out.ext.size
        have HRA := hide hra
        obtain ⟨z0, a0, a1, z1, b0, b1⟩ := HWP.out.two.cells
        clear hsa hca hra hx hba
        rw [hd]
        go_wp2_with fail
        go_meet
        case rel => exact ⟨rfl, ⟨_, _, _, rfl⟩, by rw [HOW.out]; exact HRA.out⟩
    case rest =>
    obtain ⟨rfl, ⟨p13, n13, c13, rfl⟩, HRO⟩ := hcut
    obtain ⟨bb, ob, rfl, hbb, hsb⟩ := HATB.out (by omega)
    obtain ⟨qb, db, hcb, -, -, hrb, -⟩ := hsb t hltB
    have hlB : (t : Int) < (B.L : Int) := by omega
    obtain ⟨z0, a0, a1, z1, b0, b1⟩ := HWP.out.two.cells
    have x0 := hcb _ HWP.out.ext
    have xz : bb < wc.heap.size := Nat.lt_of_lt_of_le hbb HWP.out.ext.size
    have c1 := dcell HPB.out 1
    have HRB := hide hrb
    have HRBE := hide (HWP.out.ext)
    clear hsb hcb hrb c0
    go_wp2_with fail
    refine (steps_any _ _ ⟨_, _, _, rfl⟩ ⟨_, _, _, rfl⟩ wc).mono ?_
    rintro e W9 ⟨rfl, hW9⟩
    have hE9 : Ext wc W9 := by rw [hW9]; exact ((Ext.refl _).alloc _).alloc _
    have hx9 : MBox W9 wc.heap.size (.slice p13 n13 c13) := by rw [hW9]; exact (Below.heap_alloc _ _ _ (by simp)).trans (heap_alloc_new wc _)
    have hy9 : MBox W9 (wc.heap.size + 1) (.slice qb (B.len t) db) := by
      rw [hW9]
      have := heap_alloc_new (wc.alloc (.cells #[.slice p13 n13 c13] 89)) (.cells #[.slice qb (B.len t) db] 89)
      rwa [World.size_alloc] at this
    have HX9 := hide hx9
    have HY9 := hide hy9
    have HW9 := hide (HWP.out.mono hE9)
    have HK9 := hide (HKP.out.ext hE9)
    have HXB9 := hide (HXP.out.ext hE9)
    have HKN9 := hide (HNP.out.ext hE9)
    have HNB9 := hide (HNB.out.ext hE9)
    have HM9 := hide (HMP.out.of_heap (fun b _ hb _ => hE9.b.block b (by have := HSZ.out; omega)))
    have HZ9 := hide hE9.size
    obtain ⟨g, hg⟩ : ∃ g, wc.heap.size = g := ⟨_, rfl⟩
    have HSG : Hid (g = pb + 2) := by show _ = _; rw [← hg]; exact HSZ.out
    rw [hg] at HX9 HY9 HZ9
    rw [hg]
    clear hE9 hx9 hy9 hW9 HWP HKP HXP HNP HNB HMP HSZ HPB z0 a0 a1 z1 b0 b1 x0 xz c1 cz hg
    clear HRBE
    go_wp2_with fail
    have HSEQ := hide (steps_seq (ownS A sp) (B.st.getD t []) g (.slice p13 n13 c13) (.slice qb (B.len t) db))
    have HST : Hid (∀ e ∈ mergeS (ownS A sp) (B.st.getD t []), 0 ≤ e.y → okX A B (e.x, e.y)) := fun e he hy => okX_step (bothI_zero HB0.out).1 (bothI_zero HB0.out).2.1 HOX.out (by simpa using he) hy
    obtain ⟨L, hL⟩ : ∃ L, mergeS (ownS A sp) (B.st.getD t []) = L := ⟨_, rfl⟩
    rw [hL] at HSEQ HST HTB
    obtain ⟨f, hf⟩ : ∃ f, exN A B (N - k - 1) = f := ⟨_, rfl⟩
    obtain ⟨C, hC⟩ : ∃ C, wgt (exN A B (N - k - 1 + 1)) (la ++ lb) = C := ⟨_, rfl⟩
    rw [hf, hC] at HTB
    have HF := hide hf
    have HC := hide hC
    have HZW : Hid (w.heap.size = z) := HZ
    have hpz : pb + 1 < W9.heap.size := by have := HZ9.out; have := HSG.out; omega
    have hgp : pb + 1 < g := by have := HSG.out; omega
    have s1 : z + 1 < b := HZB.out
    have s2 : b < mx := HBM.out
    have s3 : mx + 1 < r := by have := HR2.out; omega
    have s4 : r < pb := HPR.out
    clear hL hf hC
    refine wp_rangeX (n := L.length) rfl (fun _ _ => rfl) HSEQ.out (fun i O x V hi hX => by obtain ⟨e, _, rfl⟩ := hX; rfl)
      (fun j O V => ∃ nx, ExJ A B w z p c (some ⟨bb, ob, none⟩) d b r mx pb n C T f mp (la ++ lb) ds L j nx O V)
      (fun c O V => False) ?_ ?_ ?_ ?_ ?_ ?_ ?_ ?_ ?_
    · rintro j O V ⟨nx, h⟩
      exact ⟨HRO.out.ext h.w.ext, HRB.out.ext h.w.ext⟩
    · rintro j O O' V V' ⟨nx, h⟩ hC hG
      exact ⟨nx, h.rely HZW.out hpz hC hG⟩
    · exact fun _ _ _ _ _ h => h.elim
    · intro V hE
      exact ⟨(hE.b.block _ (lt_of_heap HX9.out)).trans HX9.out, (hE.b.block _ (lt_of_heap HY9.out)).trans HY9.out⟩
    · rintro b (rfl | rfl)
      · exact lt_of_heap HX9.out
      · exact lt_of_heap HY9.out
    · exact ⟨nx, HW9.out, HK9.out, HXB9.out, HKN9.out, HNB9.out, HON.out, HTB.out, HM9.out, fun b hb => by rcases hb with rfl | rfl <;> omega, hpz, s1, s2, s3, s4⟩
    · rintro lp j x O V hj ⟨e, he, rfl⟩ ⟨nx1, hS⟩ hOV hlp hlV
      have hE1 := (Ext.refl V).alloc (.cells #[.int .i64 e.r.g.n, .int .i64 e.r.g.h0, .int .i64 e.r.g.h1, .int .i64 e.r.g.h2, .int .i64 e.r.g.h3, .int .i64 e.r.g.h4, .int .i64 e.r.f, .int .i64 e.x, .int .i64 e.y] 83)
      have HS1 := hide (hS.rely HZW.out hpz (OffC.of_off (Off.of_ext hE1)) (Grow.same hOV hE1.size))
      have HSB1 := hide (heap_alloc_new V (.cells #[.int .i64 e.r.g.n, .int .i64 e.r.g.h0, .int .i64 e.r.g.h1, .int .i64 e.r.g.h2, .int .i64 e.r.g.h3, .int .i64 e.r.g.h4, .int .i64 e.r.f, .int .i64 e.x, .int .i64 e.y] 83))
      have HOV1 : Hid (∀ b, O b → b < (V.alloc (.cells #[.int .i64 e.r.g.n, .int .i64 e.r.g.h0, .int .i64 e.r.g.h1, .int .i64 e.r.g.h2, .int .i64 e.r.g.h3, .int .i64 e.r.g.h4, .int .i64 e.r.f, .int .i64 e.x, .int .i64 e.y] 83)).heap.size) := fun b hb => Nat.lt_of_lt_of_le (hOV b hb) hE1.size
      have HEM : Hid (e ∈ L) := List.mem_of_getElem? he
      have HDR : Hid (L.drop j = e :: L.drop (j + 1)) := by
        show _ = _
        have hh := (List.getElem?_eq_some_iff.1 he).2
        rw [List.drop_eq_getElem_cons hj, hh]
      have HVB : Hid (pb + 1 < V.heap.size) := hS.pz
      clear hE1 hS hlp hlV he hj
      gi_wp2_with fail
      refine ⟨KFO.of_ext ((Ext.refl _).alloc _) hOV, fun W2 hC hKO => ?_⟩
      have HS2 := hide (HS1.out.rely HZW.out hpz (OffC.of_chg hC) (Grow.same HOV1.out hC.size))
      have HSB2 := hide (hC.cells _ _ _ _ HSB1.out)
      have HOV2 : Hid (∀ b, O b → b < W2.heap.size) := fun b hb => Nat.lt_of_lt_of_le (HOV1.out b hb) hC.size
      have HK2 : Hid (KFO W9.heap.size O W2 W2) := KFO.of_ext (Ext.refl _) HOV2.out
      clear hC hKO HS1 HSB1 HOV1 hOV
      obtain ⟨sb, hsb⟩ : ∃ sb, V.heap.size = sb := ⟨_, rfl⟩
      rw [hsb] at HSB2 HVB
      rw [hsb]
      clear hsb V
      have c8 := dcell HSB2.out 8
      have sz := lt_of_heap HSB2.out
      by_cases hy : 0 ≤ e.y
      case neg =>
        have hd1 : decide (0 ≤ e.y) = false := decide_eq_false hy
        have HN : Hid (ExJ A B w z p c (some ⟨bb, ob, none⟩) d b r mx pb n C T f mp (la ++ lb) ds L (j + 1) nx1 O W2) := by
          have h := HS2.out
          have ht := h.t
          rw [HDR.out, wst_cons, if_neg hy, Nat.zero_add] at ht
          exact ⟨h.w, h.k, h.x, h.kn, h.nb, h.ok, ht, h.mks, h.o, h.pz, h.s1, h.s2, h.s3, h.s4⟩
        clear hy
        gi_wp2_with fail
        exact ⟨HK2.out, _, HN.out⟩
      case pos =>
        have hd1 : decide (0 ≤ e.y) = true := decide_eq_true hy
        have HOKE := hide (HST.out e HEM.out hy)
        have HY := hide hy
        clear hy
        gi_upto_region 19 with fail
        have HXB := hide HS2.out.x
        have HNB2 := hide HS2.out.nb
        have HKN2 := hide HS2.out.kn
        have hiz : ∀ W, (zeroValue 3).run Try.prog W = .ok (.int .i64 0) W := fun W => by kernel_rfl
        obtain ⟨vv, hvv⟩ : ∃ vv, nlook nx1 (e.x, e.y) = vv := ⟨_, rfl⟩
        have HLK : Hid (∀ Z : World, Z.heap[mx]? = W2.heap[mx]? → (Instr.lookup 92 (.map (some mx)) (.agg #[.int .i64 e.x, .int .i64 e.y]) false).run Try.prog Z = .ok (.int .i64 vv) Z) := fun Z hZ => by
          have := (HKN2.out.of_block hZ).km.look pkey_ok HUB.out hiz (e.x, e.y)
          rw [kv_look, hvv] at this
          exact this
        have hvb : vv ≤ 1048577 := by rw [← hvv]; exact nlook_le (fun x hx => (HS2.out.ok x hx).1) _
        obtain ⟨mm, hmmv⟩ : ∃ mm, min (vv + n) bigM = mm := ⟨_, rfl⟩
        have HMM : Hid (min ((vv : Int) + (n : Int)) 1048577 = (mm : Int)) := by
          show _ = _
          rw [← hmmv]; unfold bigM; omega
        have HWR : Hid (IntKind.i64.wrap ((vv : Int) + (n : Int)) = (vv : Int) + (n : Int)) := by
          show _ = _
          simp [IntKind.wrap, IntKind.bits, IntKind.signed]; omega
        have HVV := hide hvv
        have HMV := hide hmmv
        clear hiz hvv hmmv c8 sz
        refine wpIn_region_hb (fun Z : World => Z.heap[mx + 1]? = W2.heap[mx + 1]? ∧ Z.heap[sb]? = W2.heap[sb]? ∧ Z.heap[pb + 1]? = W2.heap[pb + 1]? ∧ Z.heap[mx]? = W2.heap[mx]?) (fun j => decide (j = 10)) (by kernel_rfl) (by kernel_rfl) ?_
        intro W3 hW3
        have hE3 : Ext W2 W3 := by rw [hW3]; exact (Ext.refl _).drew
        have hSd : W3.heap[mx + 1]? = W2.heap[mx + 1]? ∧ W3.heap[sb]? = W2.heap[sb]? ∧ W3.heap[pb + 1]? = W2.heap[pb + 1]? ∧ W3.heap[mx]? = W2.heap[mx]? := ⟨hE3.b.block _ (lt_of_heap HXB.out), hE3.b.block _ (lt_of_heap HSB2.out), hE3.b.block _ (lt_of_heap HNB2.out), hE3.b.block _ HKN2.out.lt⟩
        have HE3 := hide hE3
        clear hE3 hW3
        refine wpAnyT_takeB (i := 0) (.map (some mx)) rfl (by kernel_rfl) (fun j hj => by obtain rfl := of_decide_eq_true hj; kernel_rfl) (by kernel_rfl) (by kernel_rfl) (by simp [Region.wanted]) (fun Z hZ => by
          have x0 := dcell (hZ.1.trans HXB.out) 0
          have xz := lt_of_heap (hZ.1.trans HXB.out)
          go_simp) hSd ?_
        try simp only [Act.put, List.getElem_toArray, List.setIfInBounds_toArray]
        refine wpAnyT_takeB (i := 1) (.pointer (some ⟨sb, 7, none⟩)) rfl (by kernel_rfl) (fun j hj => by obtain rfl := of_decide_eq_true hj; kernel_rfl) (by kernel_rfl) (by kernel_rfl) (by simp [Region.wanted]) (fun Z hZ => by
          have xz := lt_of_heap (hZ.2.1.trans HSB2.out)
          go_simp) hSd ?_
        try simp only [Act.put, List.getElem_toArray]
        refine wpAnyT_takeB (i := 2) (.agg #[.int .i64 e.x, .int .i64 e.y]) rfl (by kernel_rfl) (fun j hj => by obtain rfl := of_decide_eq_true hj; kernel_rfl) (by kernel_rfl) (by kernel_rfl) (by simp [Region.wanted]) (fun Z hZ => by
          have x0 := dcell (hZ.2.1.trans HSB2.out) 7
          have x1 := dcell (hZ.2.1.trans HSB2.out) 8
          have xz := lt_of_heap (hZ.2.1.trans HSB2.out)
          go_simp) hSd ?_
        try simp only [Act.put, List.getElem_toArray]
        refine wpAnyT_takeB (i := 3) (.map (some mx)) rfl (by kernel_rfl) (fun j hj => by obtain rfl := of_decide_eq_true hj; kernel_rfl) (by kernel_rfl) (by kernel_rfl) (by simp [Region.wanted]) (fun Z hZ => by
          have x0 := dcell (hZ.1.trans HXB.out) 0
          have xz := lt_of_heap (hZ.1.trans HXB.out)
          go_simp) hSd ?_
        try simp only [Act.put, List.getElem_toArray]
        refine wpAnyT_takeB (i := 4) (.pointer (some ⟨sb, 7, none⟩)) rfl (by kernel_rfl) (fun j hj => by obtain rfl := of_decide_eq_true hj; kernel_rfl) (by kernel_rfl) (by kernel_rfl) (by simp [Region.wanted]) (fun Z hZ => by
          have xz := lt_of_heap (hZ.2.1.trans HSB2.out)
          go_simp) hSd ?_
        try simp only [Act.put, List.getElem_toArray]
        refine wpAnyT_takeB (i := 5) (.agg #[.int .i64 e.x, .int .i64 e.y]) rfl (by kernel_rfl) (fun j hj => by obtain rfl := of_decide_eq_true hj; kernel_rfl) (by kernel_rfl) (by kernel_rfl) (by simp [Region.wanted]) (fun Z hZ => by
          have x0 := dcell (hZ.2.1.trans HSB2.out) 7
          have x1 := dcell (hZ.2.1.trans HSB2.out) 8
          have xz := lt_of_heap (hZ.2.1.trans HSB2.out)
          go_simp) hSd ?_
        try simp only [Act.put, List.getElem_toArray]
        refine wpAnyT_takeB (i := 6) (.int .i64 vv) rfl (by kernel_rfl) (fun j hj => by obtain rfl := of_decide_eq_true hj; kernel_rfl) (by kernel_rfl) (by kernel_rfl) (by simp [Region.wanted]) (fun Z hZ => by
          have hlk := HLK.out Z hZ.2.2.2
          go_simp) hSd ?_
        try simp only [Act.put, List.getElem_toArray]
        refine wpAnyT_takeB (i := 7) (.int .i64 n) rfl (by kernel_rfl) (fun j hj => by obtain rfl := of_decide_eq_true hj; kernel_rfl) (by kernel_rfl) (by kernel_rfl) (by simp [Region.wanted]) (fun Z hZ => by
          have x0 := dcell (hZ.2.2.1.trans HNB2.out) 0
          have xz := lt_of_heap (hZ.2.2.1.trans HNB2.out)
          go_simp) hSd ?_
        try simp only [Act.put, List.getElem_toArray]
        refine wpAnyT_takeB (i := 8) (.int .i64 ((vv : Int) + (n : Int))) rfl (by kernel_rfl) (fun j hj => by obtain rfl := of_decide_eq_true hj; kernel_rfl) (by kernel_rfl) (by kernel_rfl) (by simp [Region.wanted]) (fun Z hZ => by
          have hw := HWR.out
          go_simp) hSd ?_
        try simp only [Act.put, List.getElem_toArray]
        refine wpAnyT_takeB (i := 9) (.int .i64 mm) rfl (by kernel_rfl) (fun j hj => by obtain rfl := of_decide_eq_true hj; kernel_rfl) (by kernel_rfl) (by kernel_rfl) (by simp [Region.wanted]) (fun Z hZ => by
          have hmm2 := HMM.out
          go_simp) hSd ?_
        try simp only [Act.put, List.getElem_toArray]
        obtain ⟨om, ⟨es, cl, rfl⟩, hput, hks⟩ := (HKN2.out.ext HE3.out).put pkey_ok HUB.out (e.x, e.y) (.int .i64 mm)
        rw [kv_put] at hks
        unfold penc at hput
        have HKS := hide hks
        clear hks hSd
        refine wpAnyT_oneB (i := 10) rfl (by kernel_rfl) (fun KK' hKK' => ?_)
        go_wp2_with fail
        refine ⟨rfl, hKK' _ _ (fun h => by cases h) ?_⟩
        clear hKK' KK' hput
        refine wpAnyT_done (by kernel_rfl) ?_ _
        gi_wp2_with fail
        have h := HS2.out
        have hzw := HZW.out
        have hz3 : W2.heap.size ≤ W3.heap.size := HE3.out.size
        have hpb := h.pz
        have g1 := h.s1
        have g2 := h.s2
        have g3 := h.s3
        have g4 := h.s4
        have hno : ¬ O mx := fun ho => by have := h.o _ ho; omega
        have hk4 : KFO W9.heap.size O W2 (W3.putObj mx (.map es cl)) :=
          (KFO.of_ext HE3.out HOV2.out).trans ⟨⟨by simp, fun b o hb hh _ => (World.putObj_heap_other (by omega)).trans hh⟩, fun b hb => World.putObj_heap_other (fun e => hno (e ▸ hb))⟩
        have ht : ∀ b, b ≤ pb + 1 → b ≠ mx → (W3.putObj mx (.map es cl)).heap[b]? = W2.heap[b]? := fun b hb hne => (World.putObj_heap_other hne).trans (HE3.out.b.block b (by omega))
        have hT : min (wgt f (nput nx1 (e.x, e.y) mm) + n * wst f (L.drop (j + 1)) + C) bigM = T := by
          have h1 := h.t
          rw [HDR.out, wst_cons, if_pos HY.out] at h1
          have h2 := wgt_add f nx1 (e.x, e.y) n (n * wst f (L.drop (j + 1)) + C) (by rw [HVV.out]; exact hvb)
          rw [HVV.out, HMV.out] at h2
          rw [Nat.add_assoc, h2, ← h1]
          congr 1
          rw [Nat.mul_add]
          omega
        refine ⟨hk4, nput nx1 (e.x, e.y) mm, h.w.of ((h.w.ext.trans HE3.out).putObj (by omega) _) (fun b hb => ht b (by omega) (by omega)), h.k.of_block (ht _ (by omega) (by omega)) (ht _ (by omega) (by omega)), (ht _ (by omega) (by omega)).trans h.x, HKS.out, (ht _ (by omega) (by omega)).trans h.nb, fun x hx => ?_, hT, h.mks.of_heap (fun b' _ hb hh => ht b' (by omega) (fun e => ?_)), h.o, by simp; omega, g1, g2, g3, g4⟩
        · refine ⟨nlook_put nx1 _ _ (fun x hx => (h.ok x hx).1) (by rw [← HMV.out]; exact Nat.min_le_right _ _) x hx, ?_⟩
          rcases nput_mem nx1 _ _ x hx with h1 | h1
          · rw [h1]; exact HOKE.out
          · exact (h.ok x h1).2
        · obtain ⟨es', cl', hh'⟩ := h.kn.map
          rw [e, hh'] at hh
          cases hh
    · rintro M O V ⟨nx1, hS⟩ hMl hM
      have HS := hide hS
      have HMM := hide hM
      have HML : Hid (pb + 1 < M) := by show _ < _; omega
      clear hS hM
      go_wp2_with fail
      have h := HS.out
      have hmz := lt_of_heap HMM.out
      have ht := h.t
      rw [List.drop_length, show wst f [] = 0 from rfl, Nat.mul_zero, Nat.add_zero, ← HC.out, ← HF.out] at ht
      exact Handed.intro _ HN4.out (HJ2.out _ _ _ (ExI2.intro rfl rfl h.w h.k HO1.out h.x h.kn h.ok ht ⟨M, rfl, by have := HML.out; have := h.s1; have := h.s2; have := h.s3; have := h.s4; omega, hmz, HMM.out, h.mks.top (by have := HML.out; omega)⟩))
    · exact fun _ _ _ _ h => h.elim
  case neg =>
    obtain rfl : k = N := by omega
    have HT3 : Hid (min (0 + wgt (exN A B 0) mp) bigM = T) := by
      show _ = _
      have := HT.out
      rw [Nat.sub_self] at this
      rw [Nat.zero_add]
      exact this
    go_wp2_with (first | (at_range; refine wpList_range_k _ rfl _ _ rfl 45 3 Try.underlying92 b (kv mp) rfl HK.out ?_; intro w5 hkr hE5 hs5; have HKR := hide hkr; have HE5 := hide hE5; have HS5 := hide hs5; clear hkr hE5 hs5) | go_in)
    obtain ⟨r, hr⟩ : ∃ r, wr.heap.size = r := ⟨_, rfl⟩
    rw [hr] at HKR
    rw [hr]
    have HW5 : Hid (Ext w w5) := HW.out.ext.trans HE5.out
    have HM5 : Hid (Marks z w5 w5.heap.size ds) := (HM.out.of_heap (fun k _ hk _ => HE5.out.b.block k hk)).top HE5.out.size
    have HRZ : Hid (w.heap.size ≤ r) := by have := HW.out.ext.size; show _ ≤ _; omega
    clear hr HE5 HW HK HM HT HS5
    refine wp_loop_ghost_k (ExI3 w A B z T b r mp) mp.length ?_ ?_
    · exact ExI3.intro (s := 0) rfl rfl HW5.out HKR.out HO.out (Nat.zero_le _) HT3.out HM5.out
    clear HW5 HKR HO HT3 HM5
    clear wr w5 ds us
    rintro n3 a wr ⟨ds, us, s, left, rfl, hn3, hE, hK, hO, hs, hT, hM⟩ J3 KK3 hJ3 hKK3
    have HJ3 := hide hJ3
    have HN3 := hide hn3
    have HE := hide hE
    have HK := hide hK
    have HO := hide hO
    have HT := hide hT
    have HM := hide hM
    have hs' : s ≤ 1048577 := hs
    have HS := hide hs
    clear hJ3 hn3 hE hK hO hs hT hM
    dsimp only [exF3]
    go_wp2_with (first | (at_next; refine wpList_next_k _ rfl _ rfl b r (kv mp) (kv left) rfl HK.out ?_ ?_) | go_in)
    · intro hdone
      have hl0 : left = [] := by
        cases left with
        | nil => rfl
        | cons => simp [kv] at hdone
      subst hl0
      clear hdone
      have hfin : min (exN A B k (0, 0)) bigM = s := by
        rw [HTT.out, ← HT.out, show wgt (exN A B 0) [] = 0 from rfl, Nat.add_zero]
        exact Nat.min_eq_left HS.out
      by_cases hbig : 1048576 < s
      · have d0 : decide ((1048576 : Int) < (s : Int)) = true := decide_eq_true (by omega)
        have HR := hide (HX2.out.trans (if_pos (by unfold bigM at hfin ⊢; omega)))
        clear hbig hfin
        go_wp2_with fail
        refine leave_marks _ _ _ HM.out (v := .tuple #[.int .i64 0, .int .i64 17]) (fun W' hc => ?_) fun W' hc => ?_
        · simp [results, go_sem]
        · exact ⟨by rw [HR.out], HE.out.chg hc (by have := HZ.out; omega)⟩
      · have d0 : decide ((1048576 : Int) < (s : Int)) = false := decide_eq_false (by omega)
        have hse : exN A B k (0, 0) = s := by unfold bigM at hfin; omega
        have HR := hide (HX2.out.trans (if_neg (by unfold bigM; omega)))
        rw [hse] at HR
        clear hbig hfin hse
        go_wp2_with fail
        refine leave_marks _ _ _ HM.out (v := .tuple #[.int .i64 s, .int .i64 0]) (fun W' hc => ?_) fun W' hc => ?_
        · simp [results, go_sem]
        · exact ⟨by rw [HR.out], HE.out.chg hc (by have := HZ.out; omega)⟩
    intro lu sp tq xv lc w1 hl hkr hgr hsz hen
    unfold penc at hen ⊢
    obtain ⟨la, y, lb, rfl, rfl, rfl, hy⟩ := kv_split hl
    obtain ⟨⟨y1, y2⟩, n⟩ := y
    injection hy with hy1 hy2
    injection hy1 with hy3 hy4
    subst hy2 hy3 hy4
    have hkr' : KR penc w1 b r (kv mp) (kv (la ++ lb)) := by unfold kv; rw [List.map_append]; exact hkr
    have hnb : n ≤ 1048577 := (HO.out _ (List.mem_append_right _ (List.mem_cons_self ..))).1
    have HKR := hide hkr'
    have HE1 : Hid (Ext w w1) := HE.out.grown hgr (fun k hk => by injection hk with hk; have := HRZ.out; omega)
    have HM1 : Hid (Marks z w1 w1.heap.size ds) := by
      show Marks _ _ _ _
      rw [hsz]
      refine HM.out.of_heap fun b _ hb hh => hgr.block _ hb (fun e => ?_)
      injection e with e
      subst e
      obtain ⟨_, _, _, _, _, _, _, _, h4, _⟩ := HK.out
      rw [h4] at hh
      cases hh
    have HO1 : Hid (OkL A B (la ++ lb)) := fun x hx => HO.out x (by
      rcases List.mem_append.1 hx with h | h
      · exact List.mem_append_left _ h
      · exact List.mem_append_right _ (List.mem_cons_of_mem _ h))
    have HN4 : Hid ((la ++ lb).length < n3) := by show _ < _; rw [HN3.out]; simp
    have HTB : Hid (min (s + (wgt (exN A B 0) (la ++ lb) + n * (if sp < 0 then 1 else 0))) bigM = T) := by
      show _ = _
      have := HT.out
      rw [wgt_app, wgt_cons] at this
      rw [wgt_app]
      simp only [exN] at this
      rw [show wgt (exN A B 0) la + wgt (exN A B 0) lb + n * (if sp < 0 then 1 else 0) = wgt (exN A B 0) la + (n * (if sp < 0 then 1 else 0) + wgt (exN A B 0) lb) by omega]
      exact this
    clear hl hkr hkr' hgr hsz HE HM HO HT HK HN3
    have hfin : ∀ (W : World) (a : Act) (s' : Nat), Ext w1 W → s' ≤ bigM → min (s' + wgt (exN A B 0) (la ++ lb)) bigM = T → a = exF3 r s' (fun i => a.tmps.getD i undef) ds → Handed J3 n3 a W := fun W a s' hE hs2 hT2 ha =>
      Handed.intro _ HN4.out (HJ3.out _ _ _ (ExI3.intro ha rfl (HE1.out.trans hE) (HKR.out.ext hE) HO1.out hs2 hT2 ((HM1.out.of_heap (fun k _ hk _ => hE.b.block k hk)).top hE.size)))
    have HFIN := hide hfin
    clear hfin
    by_cases hx : sp < 0
    · have d0 : decide (sp < 0) = true := decide_eq_true hx
      have HTC := HTB.out
      rw [if_pos hx, Nat.mul_one] at HTC
      have HTC := hide HTC
      clear hx
      have hmn : min ((s : Int) + (n : Int)) 1048577 = ((min (s + n) bigM : Nat) : Int) := by unfold bigM; omega
      have HMN := hide hmn
      clear hmn
      go_wp2_with fail
      rw [HMN.out]
      refine HFIN.out _ _ (min (s + n) bigM) (((Ext.refl _).alloc _)) (Nat.min_le_right _ _) ?_ rfl
      have := HTC.out
      rw [← this]
      omega
    · have d0 : decide (sp < 0) = false := decide_eq_false hx
      have HTC := HTB.out
      rw [if_neg hx, Nat.mul_zero, Nat.add_zero] at HTC
      have HTC := hide HTC
      clear hx
      go_wp2_with fail
      exact HFIN.out _ _ s (((Ext.refl _).alloc _)) HS.out HTC.out rfl
end Go.Proofs.Ytmkmgimmlohamaa
