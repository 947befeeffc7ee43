/-
  A region that draws its order, whose operations each write a place of their own: whatever order is drawn, each value is as its own operation says.
  Conditions: as each theorem states.
-/
import Derived.Test.YthkididgbaamcaaGreatDoorHeldA
namespace Go.Proofs.YthkididgbaamcaaGreatDoor
open Go.RowKit

/-- The places behind the operations' values. -/
def putAll (d : Nat → Nat) (v : Nat → Value) : Nat → Array Value → Array Value
  | 0, t => t
  | n + 1, t => (putAll d v n t).setIfInBounds (d n) (v n)
theorem putAll_size (d : Nat → Nat) (v : Nat → Value) (t : Array Value) : ∀ n, (putAll d v n t).size = t.size
  | 0 => rfl
  | n + 1 => by unfold putAll; rw [Array.size_setIfInBounds, putAll_size d v t n]
theorem putAll_other (d : Nat → Nat) (v : Nat → Value) (t : Array Value) (x : Nat) : ∀ n, (∀ i, i < n → d i ≠ x) → (putAll d v n t)[x]? = t[x]?
  | 0, _ => rfl
  | n + 1, h => by
    unfold putAll
    rw [Array.getElem?_setIfInBounds_ne (h n (by omega)), putAll_other d v t x n fun i hi => h i (by omega)]
theorem putAll_at (d : Nat → Nat) (v : Nat → Value) (t : Array Value) (i : Nat) (hi : d i < t.size) : ∀ n, i < n → (∀ j, j < n → d j = d i → j = i) → (putAll d v n t)[d i]? = some (v i)
  | 0, h, _ => absurd h (by omega)
  | n + 1, h, hd => by
    unfold putAll
    by_cases e : n = i
    · subst e
      rw [Array.getElem?_setIfInBounds_self_of_lt (by rw [putAll_size]; exact hi)]
    · rw [Array.getElem?_setIfInBounds_ne (fun k => e (hd n (by omega) k)), putAll_at d v t i hi n (by omega) fun j hj => hd j (by omega)]
/-- How many operations are not listed yet. -/
def cntU (listed : Array Bool) : Nat → Nat
  | 0 => 0
  | k + 1 => cntU listed k + if listed.getD k true = true then 0 else 1
theorem cntU_set (listed : Array Bool) (j : Nat) (hj : j < listed.size) (hu : listed.getD j true = false) : ∀ k, cntU (listed.setIfInBounds j true) k + (if j < k then 1 else 0) = cntU listed k
  | 0 => rfl
  | k + 1 => by
    have ih := cntU_set listed j hj hu k
    unfold cntU
    by_cases e : j = k
    · subst e
      have h1 : (listed.setIfInBounds j true).getD j true = true := by
        rw [Array.getD_eq_getD_getElem?, Array.getElem?_setIfInBounds_self_of_lt hj]; rfl
      rw [h1, hu, if_pos rfl, if_neg (show ¬ (false = true) by decide), if_pos (show j < j + 1 by omega)]
      rw [if_neg (show ¬ j < j by omega)] at ih
      omega
    · have h1 : (listed.setIfInBounds j true).getD k true = listed.getD k true := by
        rw [Array.getD_eq_getD_getElem?, Array.getElem?_setIfInBounds_ne e, ← Array.getD_eq_getD_getElem?]
      rw [h1]
      generalize (if listed.getD k true = true then 0 else 1 : Nat) = x
      by_cases h2 : j < k
      · rw [if_pos h2] at ih; rw [if_pos (by omega)]; omega
      · rw [if_neg h2] at ih; rw [if_neg (by omega)]; omega
theorem cntU_zero (listed : Array Bool) : ∀ k, cntU listed k = 0 → ∀ i, i < k → listed.getD i true = true
  | 0, _, i, hi => absurd hi (by omega)
  | k + 1, h, i, hi => by
    unfold cntU at h
    have h1 : cntU listed k = 0 := by omega
    by_cases e : i = k
    · subst e
      by_cases h2 : listed.getD i true = true
      · exact h2
      · rw [if_neg h2] at h; omega
    · exact cntU_zero listed k h1 i (by omega)
theorem cntU_le (listed : Array Bool) : ∀ k, cntU listed k ≤ k
  | 0 => Nat.le_refl _
  | k + 1 => by unfold cntU; have := cntU_le listed k; split <;> omega
/-- Each operation waits for earlier ones alone. -/
def earlierB (ops : Array Oper) : Bool := (List.range ops.size).all fun i => match ops[i]? with | some o => o.after.all fun e => decide (e.on < i) | none => true
theorem earlier_on {ops : Array Oper} (h : earlierB ops = true) {i : Nat} {o : Oper} (ho : ops[i]? = some o) : ∀ e ∈ o.after, e.on < i := by
  intro e he
  unfold earlierB at h
  rw [List.all_eq_true] at h
  have := h i (List.mem_range.2 (Array.getElem?_eq_some_iff.1 ho).1)
  rw [ho] at this
  have := Array.all_eq_true_iff_forall_mem.1 this e he
  simpa using this
theorem mem_ready {md : Region.Mode} {ops : Array Oper} {listed : Array Bool} {i : Nat} : i ∈ Region.ready md ops listed ↔ ∃ o, ops[i]? = some o ∧ listed.getD i true = false ∧ ∀ e ∈ o.after, Region.binds md e = true → listed.getD e.on false = true := by
  unfold Region.ready
  rw [List.mem_filter, List.mem_range, Bool.and_eq_true, Bool.not_eq_true']
  constructor
  · rintro ⟨h1, h2, h3⟩
    have ho : ops[i]? = some ops[i] := Array.getElem?_eq_getElem h1
    refine ⟨ops[i], ho, h2, fun e he hb => ?_⟩
    rw [ho] at h3
    simp only [Option.map_some, Option.getD_some] at h3
    have := Array.all_eq_true_iff_forall_mem.1 h3 e he
    simpa [hb] using this
  · rintro ⟨o, ho, h2, h3⟩
    refine ⟨(Array.getElem?_eq_some_iff.1 ho).1, h2, ?_⟩
    rw [ho]
    simp only [Option.map_some, Option.getD_some]
    refine Array.all_eq_true_iff_forall_mem.2 fun e he => ?_
    have := h3 e he
    cases hb : Region.binds md e
    · rfl
    · simpa [hb] using this hb
theorem getD_bool {l : Array Bool} {i : Nat} (h : l.getD i false = true) : l.getD i true = true := by
  rw [Array.getD_eq_getD_getElem?] at h ⊢
  cases hx : l[i]? with
  | none => rw [hx] at h; cases h
  | some b => rw [hx] at h; exact h
theorem bool_getD {l : Array Bool} {i : Nat} (hi : i < l.size) (h : l.getD i true = true) : l.getD i false = true := by
  rw [Array.getD_eq_getD_getElem?] at h ⊢
  rw [Array.getElem?_eq_getElem hi] at h ⊢
  exact h
section
variable {P : Program} {ops : Array Oper} {md : Region.Mode} {Q : Act → World → Prop} {d : Nat → Nat} {R : Nat → Value → World → Prop} {a0 : Act} {w0 : World}
structure Ind (ops : Array Oper) (d : Nat → Nat) (R : Nat → Value → World → Prop) (a0 : Act) (w0 : World) (listed : Array Bool) (a : Act) (w : World) : Prop where
  ext : Ext w0 w
  size : listed.size = ops.size
  tsize : a.tmps.size = a0.tmps.size
  defers : a.defers = a0.defers
  keep : ∀ t, (∀ i, i < ops.size → d i ≠ t) → a.tmps[t]? = a0.tmps[t]?
  vals : ∀ i, i < ops.size → listed.getD i true = true → ∃ v, a.tmps[d i]? = some v ∧ R i v w
/-- What a step may use. -/
structure Stp (md : Region.Mode) (ops : Array Oper) (d : Nat → Nat) (R : Nat → Value → World → Prop) (a0 : Act) (w0 : World) (i : Nat) (a : Act) (w : World) : Prop where
  ext : Ext w0 w
  keep : ∀ t, (∀ i, i < ops.size → d i ≠ t) → a.tmps[t]? = a0.tmps[t]?
  tsize : a.tmps.size = a0.tmps.size
  defers : a.defers = a0.defers
  deps : ∀ j, Region.waitsFor md ops i j = true → ∃ v, a.tmps[d j]? = some v ∧ R j v w
theorem wpAny_indep (hB : earlierB ops = true) (hd : ∀ i j, i < ops.size → j < ops.size → d i = d j → i = j) (hs : ∀ i, i < ops.size → d i < a0.tmps.size)
    (hR : ∀ i v w w', R i v w → Ext w w' → R i v w')
    (step : ∀ i, i < ops.size → ∀ a w, Stp md ops d R a0 w0 i a w → wpOp P ops (Aft Q) i (fun a' w' => ∃ v, a' = a.put (some (d i)) v ∧ R i v w' ∧ Ext w w') a w)
    (fin : ∀ v w, Ext w0 w → (∀ i, i < ops.size → R i (v i) w) → Q { a0 with tmps := putAll d v ops.size a0.tmps } w) :
    ∀ fuel listed a w, Ind ops d R a0 w0 listed a w → cntU listed ops.size ≤ fuel → wpAny P md ops (Aft Q) fuel listed a w := by
  have key : ∀ listed a w, Ind ops d R a0 w0 listed a w → cntU listed ops.size = 0 → Region.ready md ops listed = [] ∧ Q a w := fun listed a w h h0 => by
    have hall := cntU_zero listed _ h0
    refine ⟨List.eq_nil_iff_forall_not_mem.2 fun i hi => ?_, ?_⟩
    · obtain ⟨o, ho, h1, _⟩ := mem_ready.1 hi
      rw [hall i (Array.getElem?_eq_some_iff.1 ho).1] at h1; cases h1
    · have hv : ∀ i, i < ops.size → a.tmps[d i]? = some (a.tmps.getD (d i) undef) ∧ R i (a.tmps.getD (d i) undef) w := fun i hi => by
        obtain ⟨v, h1, h2⟩ := h.vals i hi (hall i hi)
        have : a.tmps.getD (d i) undef = v := by rw [Array.getD_eq_getD_getElem?, h1]; rfl
        rw [this]; exact ⟨h1, h2⟩
      have ht : a.tmps = putAll d (fun i => a.tmps.getD (d i) undef) ops.size a0.tmps := by
        refine Array.ext_getElem? fun t => ?_
        by_cases ht : ∃ i, i < ops.size ∧ d i = t
        · obtain ⟨i, hi, rfl⟩ := ht
          rw [(hv i hi).1, putAll_at d (fun i => a.tmps.getD (d i) undef) _ i (hs i hi) _ hi fun j hj e => hd j i hj hi e]
        · have hn : ∀ i, i < ops.size → d i ≠ t := fun i hi e => ht ⟨i, hi, e⟩
          rw [h.keep t hn, putAll_other _ _ _ _ _ hn]
      have ha : a = { a0 with tmps := putAll d (fun i => a.tmps.getD (d i) undef) ops.size a0.tmps } := by
        obtain ⟨t, df⟩ := a
        have h1 : t = _ := ht
        have h2 : df = a0.defers := h.defers
        rw [h2]
        exact congrArg (fun x => ({ a0 with tmps := x } : Act)) h1
      rw [ha]
      exact fin _ w h.ext fun i hi => (hv i hi).2
  intro fuel
  induction fuel with
  | zero =>
    intro listed a w h hc
    obtain ⟨h1, h2⟩ := key listed a w h (by omega)
    exact ⟨h1, rfl, h2⟩
  | succ fuel ih =>
    intro listed a w h hc
    refine ⟨fun h0 => ⟨rfl, ?_⟩, fun i hi => ?_⟩
    · refine (key listed a w h ?_).2
      apply Classical.byContradiction
      intro hne
      have hex : ∃ i, i < ops.size ∧ listed.getD i true = false := by
        apply Classical.byContradiction
        intro hno
        apply hne
        have : ∀ k, k ≤ ops.size → cntU listed k = 0 := fun k => by
          induction k with
          | zero => intro _; rfl
          | succ k ihk =>
            intro hk
            unfold cntU
            rw [ihk (by omega), if_pos]
            cases hx : listed.getD k true
            · exact absurd ⟨k, by omega, hx⟩ hno
            · rfl
        exact this _ (Nat.le_refl _)
      have hmin : ∀ k i, i ≤ k → i < ops.size → listed.getD i true = false → ∃ j, j < ops.size ∧ listed.getD j true = false ∧ ∀ l, l < j → listed.getD l true = true := fun k => by
        induction k with
        | zero => intro i hik hi hu; exact ⟨i, hi, hu, fun l hl => absurd hl (by omega)⟩
        | succ k ihk =>
          intro i hik hi hu
          by_cases hall : ∀ l, l < i → listed.getD l true = true
          · exact ⟨i, hi, hu, hall⟩
          · obtain ⟨l, hl⟩ := Classical.not_forall.1 hall
            obtain ⟨h1, h2⟩ := Classical.not_imp.1 hl
            exact ihk l (by omega) (by omega) (by simpa using h2)
      obtain ⟨i, hi, hu⟩ := hex
      obtain ⟨j, hj, hju, hjl⟩ := hmin i i (Nat.le_refl _) hi hu
      have : j ∈ Region.ready md ops listed := mem_ready.2 ⟨ops[j], Array.getElem?_eq_getElem hj, hju, fun e he _ => by
        have hlt := earlier_on hB (Array.getElem?_eq_getElem hj) e he
        exact bool_getD (by rw [h.size]; omega) (hjl _ hlt)⟩
      rw [h0] at this; cases this
    · obtain ⟨o, ho, hu, hdep⟩ := mem_ready.1 hi
      have hin : i < ops.size := (Array.getElem?_eq_some_iff.1 ho).1
      refine wpOp_mono ?_ (step i hin a w ⟨h.ext, h.keep, h.tsize, h.defers, fun j hj => ?_⟩)
      · rintro a' w' ⟨v, rfl, hv, hE⟩
        refine ih _ _ _ ⟨h.ext.trans hE, by rw [Array.size_setIfInBounds]; exact h.size, ?_, h.defers, fun t ht => ?_, fun k hk hl => ?_⟩ ?_
        · show (a.tmps.setIfInBounds (d i) v).size = _
          rw [Array.size_setIfInBounds]; exact h.tsize
        · show (a.tmps.setIfInBounds (d i) v)[t]? = _
          rw [Array.getElem?_setIfInBounds_ne (ht i hin)]; exact h.keep t ht
        · show ∃ v', (a.tmps.setIfInBounds (d i) v)[d k]? = some v' ∧ _
          by_cases e : k = i
          · subst e
            exact ⟨v, Array.getElem?_setIfInBounds_self_of_lt (by rw [h.tsize]; exact hs k hk), hv⟩
          · have hl' : listed.getD k true = true := by
              rw [Array.getD_eq_getD_getElem?, Array.getElem?_setIfInBounds_ne (Ne.symm e), ← Array.getD_eq_getD_getElem?] at hl; exact hl
            obtain ⟨u, h1, h2⟩ := h.vals k hk hl'
            exact ⟨u, by rw [Array.getElem?_setIfInBounds_ne (fun x => e (hd i k hin hk x).symm)]; exact h1, hR _ _ _ _ h2 hE⟩
        · have := cntU_set listed i (by rw [h.size]; exact hin) hu ops.size
          rw [if_pos hin] at this
          omega
      · obtain ⟨oj, hoj, e, he, hb, rfl⟩ := Region.waitsFor_spec hj
        rw [ho] at hoj
        injection hoj with hoj
        subst hoj
        have hlt := earlier_on hB ho e he
        exact h.vals _ (by omega) (getD_bool (hdep e he hb))
end
/-- Such a region as code. -/
theorem wp_region_indep' {P : Program} {id : Nat} {Q : Exit → Act → World → Prop} {a : Act} {w : World} {L : List Oper} (d : List Nat) (R : Nat → Value → World → Prop) (hm : P.follows .mixedOrders = true) (hB : earlierB L.toArray = true)
    (hl : d.length = L.length) (hd : d.Nodup) (hs : ∀ x ∈ d, x < a.tmps.size) (hR : ∀ i v w w', R i v w → Ext w w' → R i v w')
    (step : ∀ i, i < L.length → ∀ a1 w1, Stp .any L.toArray (fun i => d.getD i 0) R a w i a1 w1 → wpOp P L.toArray (Aft fun a w => Q .normal a w) i (fun a' w' => ∃ v, a' = a1.put (some (d.getD i 0)) v ∧ R i v w' ∧ Ext w1 w') a1 w1)
    (fin : ∀ v w', Ext w w' → (∀ i, i < L.length → R i (v i) w') → Q .normal { a with tmps := putAll (fun i => d.getD i 0) v L.length a.tmps } w') : (Code.region id L.toArray true).wp P Q a w := by
  have hat : ∀ i, i < L.length → d.getD i 0 ∈ d := fun i hi => by
    rw [List.getD_eq_getElem?_getD, List.getElem?_eq_getElem (by omega)]; exact List.getElem_mem _
  have h0 : wpAny P .any L.toArray (Aft fun a w => Q .normal a w) L.toArray.size (Array.replicate L.toArray.size false) a w.drew := by
    have hE : Ext w w.drew := (Ext.refl w).drew
    refine wpAny_indep (d := fun i => d.getD i 0) (R := R) (a0 := a) (w0 := w) hB (fun i j hi hj e => ?_) (fun i hi => hs _ (hat i (by simpa using hi))) hR (fun i hi a1 w1 h1 => step i (by simpa using hi) a1 w1 h1)
      (fun v w' hE' hv => fin v w' hE' fun i hi => hv i (by simpa using hi)) _ _ _ _ ⟨hE, by simp, rfl, rfl, fun _ _ => rfl, fun i hi hl => ?_⟩ (cntU_le _ _)
    · have hi' : i < d.length := by rw [hl]; simpa using hi
      have hj' : j < d.length := by rw [hl]; simpa using hj
      rw [List.getD_eq_getElem?_getD, List.getD_eq_getElem?_getD, List.getElem?_eq_getElem hi', List.getElem?_eq_getElem hj'] at e
      exact (List.getElem_inj hd).1 e
    · rw [Array.getD_eq_getD_getElem?, Array.getElem?_replicate, if_pos hi] at hl
      cases hl
  refine Code.wp_mono (Q := Aft fun a w => Q .normal a w) (fun e a w h => ?_) (wp_region_any hm h0)
  obtain ⟨rfl, h⟩ := h
  exact h
/-- The same, each operation walked with the places spelt out. -/
theorem wp_region_own {P : Program} {id : Nat} {Q : Exit → Act → World → Prop} {a : Act} {w : World} {L : List Oper} (n : Nat) (d : List Nat) (R : Nat → Value → World → Prop) (hm : P.follows .mixedOrders = true) (hB : earlierB L.toArray = true)
    (hn : L.length = n) (hl : d.length = n) (hd : d.Nodup) (hs : ∀ x ∈ d, x < a.tmps.size) (hR : ∀ i v w w', R i v w → Ext w w' → R i v w')
    (step : ∀ i o, L[i]? = some o → ∀ (v : Nat → Value) w1 A, A = { a with tmps := putAll (fun i => d.getD i 0) v n a.tmps } → Ext w w1 → (∀ j, Region.waitsFor .any L.toArray i j = true → R j (v j) w1) →
      ∀ KK : Act → World → Prop, (∀ u w' a', R i u w' → Ext w1 w' → a' = A.put (some (d.getD i 0)) u → KK a' w') → wpList P L.toArray (Aft KK) [o] A w1)
    (fin : ∀ v w', Ext w w' → (∀ i, i < n → R i (v i) w') → Q .normal { a with tmps := putAll (fun i => d.getD i 0) v n a.tmps } w') : (Code.region id L.toArray true).wp P Q a w := by
  subst hn
  have hat : ∀ i, i < L.length → d.getD i 0 ∈ d := fun i hi => by
    rw [List.getD_eq_getElem?_getD, List.getElem?_eq_getElem (by omega)]; exact List.getElem_mem _
  have hinj : ∀ i j, i < L.length → j < L.length → d.getD i 0 = d.getD j 0 → i = j := fun i j hi hj e => by
    rw [List.getD_eq_getElem?_getD, List.getD_eq_getElem?_getD, List.getElem?_eq_getElem (by omega), List.getElem?_eq_getElem (by omega)] at e
    exact (List.getElem_inj hd).1 e
  refine wp_region_indep' d R hm hB hl hd hs hR (fun i hi a1 w1 h1 => ?_) fin
  have ho : L[i]? = some L[i] := List.getElem?_eq_getElem hi
  have ha : a1 = { a with tmps := putAll (fun i => d.getD i 0) (fun i => a1.tmps.getD (d.getD i 0) undef) L.length a.tmps } := by
    obtain ⟨t, df⟩ := a1
    have h2 : df = a.defers := h1.defers
    have hsz : t.size = a.tmps.size := h1.tsize
    have h3 : t = putAll (fun i => d.getD i 0) (fun i => t.getD (d.getD i 0) undef) L.length a.tmps := by
      refine Array.ext_getElem? fun x => ?_
      by_cases hx : ∃ i, i < L.length ∧ d.getD i 0 = x
      · obtain ⟨k, hk, rfl⟩ := hx
        have hlt : d.getD k 0 < a.tmps.size := hs _ (hat k hk)
        rw [putAll_at (fun i => d.getD i 0) (fun i => t.getD (d.getD i 0) undef) a.tmps k hlt L.length hk fun j hj e => hinj j k hj hk e, Array.getD_eq_getD_getElem?, Array.getElem?_eq_getElem (by omega)]; rfl
      · have hn : ∀ i, i < L.length → d.getD i 0 ≠ x := fun i hi e => hx ⟨i, hi, e⟩
        have := h1.keep x fun i hi => hn i (by simpa using hi)
        rw [putAll_other _ _ _ _ _ hn]; exact this
    rw [h2]
    exact congrArg (fun x => ({ a with tmps := x } : Act)) h3
  refine Aft.op (i := i) (o := L[i]) (K := fun a' w' => ∃ v, a' = a1.put (some (d.getD i 0)) v ∧ R i v w' ∧ Ext w1 w') (by rw [List.getElem?_toArray]; exact ho) (fun _ _ h => h) ?_
  exact step i _ ho (fun i => a1.tmps.getD (d.getD i 0) undef) w1 a1 ha h1.ext (fun j hj => by
    obtain ⟨u, h2, h3⟩ := h1.deps j hj
    have : a1.tmps.getD (d.getD j 0) undef = u := by rw [Array.getD_eq_getD_getElem?, h2]; rfl
    show R j (a1.tmps.getD (d.getD j 0) undef) w1
    rw [this]; exact h3) _ (fun u w' a' hu hE ha' => ⟨u, ha', hu, hE⟩)
end Go.Proofs.YthkididgbaamcaaGreatDoor
