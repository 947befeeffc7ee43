/-
  Graphs that are composed, joined, reversed, made whole in the reference (roundtableref03).
  Conditions: none.
-/
import Derived.Test.YtpcboonjalbihaaDoorGRefP
namespace Go.Proofs.YtpcboonjalbihaaDoor
open Go.RowKit
attribute [local go_sem] Oper.semAt_some

set_option maxHeartbeats 1000000 in
theorem rcompose_any (a b : Gr) (w : World) : Calls Tryd.prog 20 #[a.v, b.v] w (RetG (composeS a b) w) := by
  have HB := hide (fun W => rgboth_any a b W)
  have HZ := hide (fun h : bothS a b ≠ 0 => show composeS a b = (gz0, bothS a b) from withE_err h)
  have HO := hide (fun h : bothS a b = 0 => show composeS a b = (compG a b, 0) from by unfold composeS; rw [h]; rfl)
  have HW := hide (fun h : bothS a b = 0 => bothS_ok h)
  have HP := hide (fun n W (_ : Ext w W) ha hb => rproduct_any (n := n) a b ha hb W)
  generalize composeS a b = res at HZ HO ⊢
  generalize bothS a b = e at HB HZ HO HW
  go_enter Tryd.func20, Tryd.ntmps20
  go_wp2_with fail
  have HT := hide (Three.mk_ w a b)
  refine (HB.out _).mono ?_
  rintro r w1 ⟨rfl, hE⟩
  have HT := hide (HT.out.ext_ hE)
  clear hE
  by_cases he : e = 0
  case neg =>
    have hd : (e != 0) = true := by simp [he]
    have HR := hide (HZ.out he)
    clear he
    obtain ⟨g, hg⟩ := HT.out.c
    obtain ⟨d0, d1, d2, d3, d4, d5, dz⟩ := hg.cells
    obtain ⟨f0, f1, f2, f3, f4, f5⟩ := hg.frozen
    have HG := hide hg
    clear hg
    go_wp2_with fail
    exact bodyPost_ret (v := .tuple #[gz0.v, .int .i64 e]) (results_gr2 rfl _ rfl rfl (HG.out.store gz0)) rfl ⟨by rw [HR.out], HT.out.ext.gstore (by omega) gz0⟩
  case pos =>
  subst he
  obtain ⟨n, hwa, hwb⟩ := HW.out (by trivial)
  have HR := hide (HO.out (by trivial))
  obtain ⟨a0, a1, a2, a3, a4, a5, az⟩ := HT.out.a.cells
  obtain ⟨b0, b1, b2, b3, b4, b5, bz⟩ := HT.out.b.cells
  have HP2 := hide (HP.out n w1 HT.out.ext hwa hwb)
  clear hwa hwb
  go_wp2_with fail
  refine HP2.out.mono ?_
  rintro r w2 ⟨rfl, hE⟩
  have HT := hide (HT.out.ext_ hE)
  clear hE a0 a1 a2 a3 a4 a5 az b0 b1 b2 b3 b4 b5 bz
  obtain ⟨g, hg⟩ := HT.out.c
  obtain ⟨d0, d1, d2, d3, d4, d5, dz⟩ := hg.cells
  obtain ⟨f0, f1, f2, f3, f4, f5⟩ := hg.frozen
  have HG := hide hg
  clear hg
  generalize compG a b = r at *
  go_wp2_with fail
  exact bodyPost_ret (v := .tuple #[r.v, .int .i64 0]) (results_gr2 rfl _ rfl rfl (HG.out.store r)) rfl ⟨by rw [HR.out], HT.out.ext.gstore (by omega) r⟩
theorem Gr.ext_h {x y : Gr} (hn : x.n = y.n) (h : ∀ p, p < 5 → x.h p = y.h p) : x = y := Gr.ext_ hn (h 0 (by decide)) (h 1 (by decide)) (h 2 (by decide)) (h 3 (by decide)) (h 4 (by decide))
/-- A graph whose first k rows are replaced. -/
def setG (a : Gr) (f : Nat → Int) : Nat → Gr
  | 0 => a
  | k + 1 => (setG a f k).set k (f k)
theorem Gr.set_n (g : Gr) (p : Nat) (x : Int) : (g.set p x).n = g.n := by
  match p with
  | 0 => rfl
  | 1 => rfl
  | 2 => rfl
  | 3 => rfl
  | 4 => rfl
  | _ + 5 => rfl
theorem Gr.set_other (g : Gr) {p q : Nat} (x : Int) (hp : p < 5) (hq : q < 5) (h : q ≠ p) : (g.set p x).h q = g.h q := by
  obtain rfl | rfl | rfl | rfl | rfl : p = 0 ∨ p = 1 ∨ p = 2 ∨ p = 3 ∨ p = 4 := by omega
  all_goals (obtain rfl | rfl | rfl | rfl | rfl : q = 0 ∨ q = 1 ∨ q = 2 ∨ q = 3 ∨ q = 4 := by omega)
  all_goals first | rfl | omega
theorem setG_n (a : Gr) (f : Nat → Int) : ∀ k, (setG a f k).n = a.n
  | 0 => rfl
  | k + 1 => by rw [setG, Gr.set_n, setG_n a f k]
theorem setG_h (a : Gr) (f : Nat → Int) : ∀ k p, k ≤ 5 → p < 5 → (setG a f k).h p = if p < k then f p else a.h p
  | 0, p, _, _ => by simp [setG]
  | k + 1, p, hk, hp => by
    rw [setG]
    by_cases h : p = k
    · subst h; rw [Gr.set_h _ _ _ hp, if_pos (by omega)]
    · rw [Gr.set_other _ _ (by omega) hp h, setG_h a f k p (by omega) hp]
      by_cases h2 : p < k
      · rw [if_pos h2, if_pos (by omega)]
      · rw [if_neg h2, if_neg (by omega)]
theorem setG_made {a : Gr} {n : Nat} (ha : Wf a n) (f : Nat → Int) : setG a f n = mkG n f n := by
  have h5 := ha.n5
  refine Gr.ext_h (by rw [setG_n, ha.n_eq]; rfl) fun p hp => ?_
  rw [setG_h _ _ _ _ h5 hp, mkG_h _ _ _ _ hp]
  split
  · rfl
  · rw [ha.row, ha.out p (by omega)]; rfl
theorem Three.set {w W : World} {a b : Gr} (h : Three w W a b) {p : Nat} (hp : p < 5) (x : Int) : Three w (W.setCell ⟨w.heap.size, 1 + p, none⟩ (.int .i64 x)) (a.set p x) b := by
  refine ⟨⟨h.ext.setCell (Nat.le_refl _) _, h.a.set hp x, ?_⟩, ?_⟩
  · exact (Below.heap_setCell _ _ _ _ (by show w.heap.size + 1 ≠ w.heap.size; omega)).trans h.b
  · obtain ⟨c, hc⟩ := h.c
    exact ⟨c, (Below.heap_setCell _ _ _ _ (by show w.heap.size + 1 + 1 ≠ w.heap.size; omega)).trans hc⟩
set_option maxRecDepth 16000 in
set_option maxHeartbeats 4000000 in
theorem runion_ok (a b : Gr) {n : Nat} (ha : Wf a n) (hb : Wf b n) (w : World) :
    Calls Tryd.prog 22 #[a.v, b.v] w (RetG (uniG a b, 0) w) := by
  have HC : Hid (uniG a b = mkG n (fun p => (a.r p ||| b.r p : Nat)) n) := by show _ = _; unfold uniG natG; rw [ha.toNat]
  have hbo : bothS a b = 0 := bothS_0 (wf_chk ha) (wf_chk hb) (by rw [ha.n_eq, hb.n_eq])
  have HB2 := hide (fun W => rgboth_any a b W)
  rw [hbo] at HB2
  generalize hr : uniG a b = r at HC ⊢
  have hn5 := ha.n5
  have HA := hide ha
  have HB := hide hb
  have HF := hide (setG_made ha (fun p => (a.r p ||| b.r p : Nat)))
  have HSH := hide (fun k p hk hp => setG_h a (fun p => (a.r p ||| b.r p : Nat)) k p hk hp)
  have HSN := hide (fun k => setG_n a (fun p => (a.r p ||| b.r p : Nat)) k)
  have HS := hide (fun k => show setG a (fun p => (a.r p ||| b.r p : Nat)) (k + 1) = (setG a (fun p => (a.r p ||| b.r p : Nat)) k).set k (a.r k ||| b.r k : Nat) from rfl)
  have HS0 := hide (show setG a (fun p => (a.r p ||| b.r p : Nat)) 0 = a from rfl)
  have HR : Hid (setG a (fun p => (a.r p ||| b.r p : Nat)) n = r) := by show _ = _; rw [HF.out, ← HC.out]
  generalize setG a (fun p => (a.r p ||| b.r p : Nat)) = sg at HSH HSN HS HS0 HR
  clear ha hb hr HC hbo HF
  go_enter Tryd.func22, Tryd.ntmps22
  go_wp2_with fail
  have HT := hide (Three.mk_ w a b)
  refine (HB2.out _).mono ?_
  rintro e w1 ⟨rfl, hE⟩
  have HT : Hid (Three w w1 (sg 0) b) := by show Three _ _ _ _; rw [HS0.out]; exact HT.out.ext_ hE
  clear hE
  go_wp2_with fail
  go_loopw [7] (fun x wr => ∃ p : Nat, p ≤ n ∧ x = .int .i64 p ∧ Hid (Three w wr (sg p) b)) (fun x _ => n - (intOf x).toNat)
  case atStart => exact ⟨0, by omega, rfl, HT⟩
  case round =>
    clear HT
    obtain ⟨p, hp, rfl, HT⟩ := hrel
    obtain ⟨c0, c1, c2, c3, c4, c5, z0⟩ := HT.out.a.cells
    rw [HSN.out, HA.out.n_eq] at c0
    by_cases hlt : p < n
    · clear c1 c2 c3 c4 c5
      have hp5 : (p : Int) < 5 := by omega
      have HNEW := hide (HT.out.set (p := p) (by omega) (a.r p ||| b.r p : Nat))
      rw [← HS.out] at HNEW
      obtain ⟨ra, fa⟩ := HT.out.a.row (p := p) (by omega)
      rw [HSH.out _ _ (by omega) (by omega), if_neg (by omega), HA.out.row] at ra
      obtain ⟨rb, -⟩ := HT.out.b.row (p := p) (by omega)
      rw [HB.out.row] at rb
      have z1 := lt_of_heap HT.out.b
      have hor := i64_or_nat (a.r p) (b.r p) (by have := HA.out.lt32 p; omega) (by have := HB.out.lt32 p; omega)
      go_wp2_with fail
      go_still_tail 11, (by kernel_rfl)
      change wpList _ _ _ _ _ wr.drew
      have HT := hide (HT.out.ext_ (Ext.refl wr).drew)
      obtain ⟨ra9, fa9⟩ := HT.out.a.row (p := p) (by omega)
      have HNEW := hide (HT.out.set (p := p) (by omega) (a.r p ||| b.r p : Nat))
      rw [← HS.out] at HNEW
      have z9 := lt_of_heap HT.out.a
      clear c0 z0 z1 ra fa rb
      generalize wr.drew = w9 at *
      go_wp2_with fail
      go_roundw
      case rel => exact ⟨p + 1, by omega, by go_num, HNEW⟩
      case measure => simp [intOf]; omega
    · obtain rfl : p = n := by omega
      rw [HR.out] at c1 c2 c3 c4 c5
      have hrn : r.n = (p : Int) := by rw [← HR.out, HSN.out, HA.out.n_eq]
      rw [← hrn] at c0
      have HRN := hide hrn
      obtain ⟨g, hg⟩ := HT.out.c
      obtain ⟨d0, d1, d2, d3, d4, d5, dz⟩ := hg.cells
      obtain ⟨f0, f1, f2, f3, f4, f5⟩ := hg.frozen
      have HG := hide hg
      have hd : decide ((p : Int) < r.n) = false := by simp; omega
      clear hg hrn
      go_wp2_with fail
      exact bodyPost_ret (v := .tuple #[r.v, .int .i64 0]) (results_gr2 rfl _ rfl rfl (HG.out.store r)) rfl ⟨rfl, HT.out.ext.gstore (by omega) r⟩
set_option maxHeartbeats 1000000 in
theorem runion_any (a b : Gr) (w : World) : Calls Tryd.prog 22 #[a.v, b.v] w (RetG (unionS a b) w) := by
  by_cases h0 : bothS a b = 0
  · obtain ⟨n, ha, hb⟩ := bothS_ok h0
    have : unionS a b = (uniG a b, 0) := by unfold unionS; rw [h0]; rfl
    rw [this]
    exact runion_ok a b ha hb w
  have HB := hide (fun W => rgboth_any a b W)
  have HR := hide (show unionS a b = (gz0, bothS a b) from withE_err h0)
  generalize unionS a b = res at HR ⊢
  generalize bothS a b = e at HB HR h0
  have hd : (e != 0) = true := by simp [h0]
  clear h0
  go_enter Tryd.func22, Tryd.ntmps22
  go_wp2_with fail
  have HT := hide (Three.mk_ w a b)
  refine (HB.out _).mono ?_
  rintro r w1 ⟨rfl, hE⟩
  have HT := hide (HT.out.ext_ hE)
  clear hE
  obtain ⟨g, hg⟩ := HT.out.c
  obtain ⟨d0, d1, d2, d3, d4, d5, dz⟩ := hg.cells
  obtain ⟨f0, f1, f2, f3, f4, f5⟩ := hg.frozen
  have HG := hide hg
  clear hg
  go_wp2_with fail
  exact bodyPost_ret (v := .tuple #[gz0.v, .int .i64 e]) (results_gr2 rfl _ rfl rfl (HG.out.store gz0)) rfl ⟨by rw [HR.out], HT.out.ext.gstore (by omega) gz0⟩
end Go.Proofs.YtpcboonjalbihaaDoor
