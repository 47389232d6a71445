/- Numerals of negative numbers. Lemmas only; no condition. -/
import Derived.Test.YtikanmboimjhgaaDoorDrb
set_option linter.unusedSimpArgs false
set_option linter.unusedVariables false
set_option maxRecDepth 8000
namespace Go.Proofs.YtikanmboimjhgaaDoor.Sim
open Go Go.RowKit
variable {ro : Nat} {X : Ext}
theorem remN (r : Nat) : (-(r : Int)).tmod 10 = -((r % 10 : Nat) : Int) := by rw [Int.neg_tmod, rem10]
theorem quoN (r : Nat) : (-(r : Int)).tdiv 10 = -((r / 10 : Nat) : Int) := by rw [Int.neg_tdiv, quo10]
set_option maxHeartbeats 1000000 in
theorem l01DecN_r (hx : XD X) {k : Nat} {h : Heap} (h0 : 0 < k) (h1 : k ≤ 1099511627776) (hro : ro ≤ h.length) :
    Ret Tryd.prog ro X 24 [.int .i64 (-(k : Int))] h (.string ⟨⟨45 :: Lib.decDigits k⟩⟩) := by
  have hX := hx.n
  refine ret_of (callR_of (hX _ rfl) Tryd.func24 rfl (by kernel_rfl) (Nat.le_of_ble_eq_true rfl) ?_)
  (repeat' first | simp -dsimp (disch := first | omega | assumption | (refine OkS.sto ?_ (by omega); first | assumption | (refine OkS.sto ?_ (by omega); first | assumption | (refine OkS.sto ?_ (by omega); first | assumption | (refine OkS.sto ?_ (by omega); first | assumption | (refine OkS.sto ?_ (by omega); first | assumption | (refine OkS.sto ?_ (by omega); first | assumption)))))) | exact Pfx.refl _ | (apply Pfx.snoc; repeat (first | exact Pfx.refl _ | assumption | apply Pfx.snoc)) | with_unfolding_all exact of_eq_true (eq_true rfl) | (simp only [List.length_append, List.length_cons, List.length_nil]; omega)) only [↓wpre0, ↓wpre1, ↓reduceIte, Int.reduceToNat, Nat.reduceAdd, Nat.reduceMul, Nat.reduceEqDiff, wpost0, wpost1, wpost2, wpost3, wpost4, ite_self, ite_true, ite_false, if_true, if_false, xbls22_0, xbls22_1, xlen22, bin_eql, bin_neq, bin_rem, bin_lss, un_neg, bin_add, xcv2_5, bin_quo, fr24, wrap_int, wrap_u8, iteP_yes, iteP_no] | refine iteP_two (fun hc hd => ?_) (fun hc hd => ?_) | refine iteP_intro (fun hc => ?_) (fun hc => ?_))
  refine loop_exit 0 (fun e2 h2 => ∃ y, e2 0 = .int .i64 (-(k : Int)) ∧ e2 3 = y ∧ Pfx h h2 ∧ VG h.length 5 1 h2 y (Lib.decDigits k).length ((Lib.decDigits k).map u8v)) ?_ ?_
  · refine loop_rounds (fun m e h' => ∃ (r : Nat) (L : List UInt8) (y : Value), m = r + (if L = [] then 1 else 0) ∧ DI k r L ∧ L.length ≤ 20 + k - r ∧ r ≤ k ∧ Pfx h h' ∧ e 0 = .int .i64 (-(k : Int)) ∧ e 3 = y ∧ e 4 = .int .i64 (-(r : Int)) ∧ VG h.length 5 1 h' y L.length (L.map u8v)) _ ⟨k, [], .slice (some ⟨h.length, 0, none⟩) 0 0, rfl, ?_⟩ ?_
    · simp only [updO_at, updO_not, entry_at, List.getD_cons_zero, List.getD_cons_succ, ↓reduceIte, Nat.reduceEqDiff, true_and, and_true]
      exact ⟨.inl ⟨rfl, rfl⟩, by simp, Nat.le_refl _, (Pfx.refl h).snoc, vg_new h (Nat.le_refl _)⟩
    · rintro m e h' ⟨r, L, y, hm, hD, hL, hrk, hp, g0, g3, g4, hY⟩
      have hl := hp.len
      by_cases hin : L = [] ∨ r ≠ 0
      · have hdz := dig_v r
        have hrem := remN r
        have hquo := quoN r
        have hneg : 0 - -((r % 10 : Nat) : Int) = ((r % 10 : Nat) : Int) := by omega
        have hsum : 48 + ((r % 10 : Nat) : Int) = ((UInt8.ofNat (48 + r % 10)).toNat : Int) := by rw [UInt8.toNat_ofNat']; omega
        have p1 : Pfx h' (h' ++ [(⟨5, [u8v (UInt8.ofNat (48 + r % 10))]⟩ : Blk)]) := (Pfx.refl h').snoc
        have hYs := (hY.vsl.pre p1).news
        obtain ⟨x, H, ap, _, old, _, vg⟩ := accS (P := Tryd.prog) (ro := ro) (T := 22) (u := 22) (lo := h'.length) (n := 1) (m := L.length) (h := h' ++ [(⟨5, [u8v (UInt8.ofNat (48 + r % 10))]⟩ : Blk)]) (x := .slice (some ⟨h'.length, 0, none⟩) 1 1) tel22 tsz5 tby5 tze5 (by decide) (.inl rfl) (.inl (vg_lit h' (Nat.le_refl _) rfl)) (by omega) (by simp) hYs.1 hYs.2 (by simp) (one_u8 L) (by omega) (by omega)
        have vg2 := vg (vg_lit h' (Nat.le_refl _) rfl)
        have e1 : h'.length + 1 ≤ H.length := by have := old.2.2; rw [List.length_append, List.length_singleton] at this; exact this
        simp only [u8v] at ap
        have hdiv : r / 10 ≤ r := Nat.div_le_self _ _
        have hmz : r / 10 + (if UInt8.ofNat (48 + r % 10) :: L = [] then 1 else 0) < m := by
          rw [if_neg (by simp), hm]
          rcases hin with rfl | q
          · rw [if_pos rfl]; omega
          · omega
        have hLL : (UInt8.ofNat (48 + r % 10) :: L).length ≤ 20 + k - r / 10 := by
          rw [List.length_cons]
          rcases hin with rfl | q
          · simp; omega
          · omega
        have vg3 : VG h.length 5 1 H x (UInt8.ofNat (48 + r % 10) :: L).length ((UInt8.ofNat (48 + r % 10) :: L).map u8v) := by
          have := vg2.low hl
          rw [Nat.add_comm] at this
          exact this
        have fin : ∃ m1, m1 < m ∧ ∃ (r1 : Nat) (L1 : List UInt8) (y1 : Value), m1 = r1 + (if L1 = [] then 1 else 0) ∧ DI k r1 L1 ∧ L1.length ≤ 20 + k - r1 ∧ r1 ≤ k ∧ Pfx h H ∧ x = y1 ∧ Value.int .i64 (-((r / 10 : Nat) : Int)) = .int .i64 (-(r1 : Int)) ∧ VG h.length 5 1 H y1 L1.length (L1.map u8v) := ⟨_, hmz, _, _, _, rfl, hD.step hin, hLL, by omega, old.1 h (hp.trans p1) hl, rfl, rfl, vg3⟩
        by_cases hz : r % 10 = 0
        · have hs0 : 48 + -((r % 10 : Nat) : Int) = ((UInt8.ofNat (48 + r % 10)).toNat : Int) := by rw [hz]; rfl
          (repeat' first | simp -dsimp (disch := first | omega | assumption | (refine OkS.sto ?_ (by omega); first | assumption | (refine OkS.sto ?_ (by omega); first | assumption | (refine OkS.sto ?_ (by omega); first | assumption | (refine OkS.sto ?_ (by omega); first | assumption | (refine OkS.sto ?_ (by omega); first | assumption | (refine OkS.sto ?_ (by omega); first | assumption)))))) | exact Pfx.refl _ | (apply Pfx.snoc; repeat (first | exact Pfx.refl _ | assumption | apply Pfx.snoc)) | with_unfolding_all exact of_eq_true (eq_true rfl) | (simp only [List.length_append, List.length_cons, List.length_nil]; omega)) only [↓wpre0, ↓wpre1, ↓reduceIte, Int.reduceToNat, Nat.reduceAdd, Nat.reduceMul, Nat.reduceEqDiff, wpost0, wpost1, wpost2, wpost3, wpost4, ite_self, ite_true, ite_false, if_true, if_false, xbls22_0, xbls22_1, xlen22, bin_eql, bin_neq, bin_rem, bin_lss, un_neg, bin_add, xcv2_5, bin_quo, fr24, wrap_int, wrap_u8, iteP_yes, iteP_no, g0, g3, g4, hY.vs.len Tryd.underlying22, hrem, hquo, hs0, ap, bin_rem, bin_quo] | refine iteP_two (fun hc hd => ?_) (fun hc hd => ?_) | refine iteP_intro (fun hc => ?_) (fun hc => ?_))
          all_goals first | exact fin | (exfalso; rcases hin with rfl | q <;> simp_all) | trace_state
        · (repeat' first | simp -dsimp (disch := first | omega | assumption | (refine OkS.sto ?_ (by omega); first | assumption | (refine OkS.sto ?_ (by omega); first | assumption | (refine OkS.sto ?_ (by omega); first | assumption | (refine OkS.sto ?_ (by omega); first | assumption | (refine OkS.sto ?_ (by omega); first | assumption | (refine OkS.sto ?_ (by omega); first | assumption)))))) | exact Pfx.refl _ | (apply Pfx.snoc; repeat (first | exact Pfx.refl _ | assumption | apply Pfx.snoc)) | with_unfolding_all exact of_eq_true (eq_true rfl) | (simp only [List.length_append, List.length_cons, List.length_nil]; omega)) only [↓wpre0, ↓wpre1, ↓reduceIte, Int.reduceToNat, Nat.reduceAdd, Nat.reduceMul, Nat.reduceEqDiff, wpost0, wpost1, wpost2, wpost3, wpost4, ite_self, ite_true, ite_false, if_true, if_false, xbls22_0, xbls22_1, xlen22, bin_eql, bin_neq, bin_rem, bin_lss, un_neg, bin_add, xcv2_5, bin_quo, fr24, wrap_int, wrap_u8, iteP_yes, iteP_no, g0, g3, g4, hY.vs.len Tryd.underlying22, hrem, hquo, hneg, hsum, ap, bin_rem, bin_quo] | refine iteP_two (fun hc hd => ?_) (fun hc hd => ?_) | refine iteP_intro (fun hc => ?_) (fun hc => ?_))
          all_goals first | exact fin | (exfalso; rcases hin with rfl | q <;> simp_all) | trace_state
      · have hL0 : L ≠ [] := fun q => hin (.inl q)
        have hr0 : r = 0 := by
          rcases Nat.eq_zero_or_pos r with q | q
          · exact q
          · exact absurd (.inr (by omega)) hin
        subst hr0
        have hLp : L.length ≠ 0 := fun q => hL0 (List.length_eq_zero_iff.1 q)
        obtain rfl : L = Lib.decDigits k := hD.done hL0
        have hz0 : -((0 : Nat) : Int) = 0 := rfl
        (repeat' first | simp -dsimp (disch := first | omega | assumption | (refine OkS.sto ?_ (by omega); first | assumption | (refine OkS.sto ?_ (by omega); first | assumption | (refine OkS.sto ?_ (by omega); first | assumption | (refine OkS.sto ?_ (by omega); first | assumption | (refine OkS.sto ?_ (by omega); first | assumption | (refine OkS.sto ?_ (by omega); first | assumption)))))) | exact Pfx.refl _ | (apply Pfx.snoc; repeat (first | exact Pfx.refl _ | assumption | apply Pfx.snoc)) | with_unfolding_all exact of_eq_true (eq_true rfl) | (simp only [List.length_append, List.length_cons, List.length_nil]; omega)) only [↓wpre0, ↓wpre1, ↓reduceIte, Int.reduceToNat, Nat.reduceAdd, Nat.reduceMul, Nat.reduceEqDiff, wpost0, wpost1, wpost2, wpost3, wpost4, ite_self, ite_true, ite_false, if_true, if_false, xbls22_0, xbls22_1, xlen22, bin_eql, bin_neq, bin_rem, bin_lss, un_neg, bin_add, xcv2_5, bin_quo, fr24, wrap_int, wrap_u8, iteP_yes, iteP_no, g0, g3, g4, hz0, hY.vs.len Tryd.underlying22] | refine iteP_two (fun hc hd => ?_) (fun hc hd => ?_) | refine iteP_intro (fun hc => ?_) (fun hc => ?_))
        exact ⟨_, rfl, hp, hY⟩
  · rintro e2 h2 ⟨y, g0, rfl, hp, hY⟩
    have hl := hp.len
    have p1 : Pfx h2 (h2 ++ [(⟨5, [u8v 45]⟩ : Blk)]) := (Pfx.refl h2).snoc
    have hYs := (hY.vsl.pre p1).news
    have hk := nDigits_le 13 k (by omega)
    rw [← Lib.decDigits_length] at hk
    obtain ⟨x, H, ap, _, old, _, vg⟩ := accS (P := Tryd.prog) (ro := ro) (T := 22) (u := 22) (lo := h2.length) (n := 1) (m := (Lib.decDigits k).length) (h := h2 ++ [(⟨5, [u8v 45]⟩ : Blk)]) (x := .slice (some ⟨h2.length, 0, none⟩) 1 1) tel22 tsz5 tby5 tze5 (by decide) (.inl rfl) (.inl (vg_lit h2 (Nat.le_refl _) rfl)) (by omega) (by simp) hYs.1 hYs.2 (by simp) (one_u8 _) (by omega) (by omega)
    have vg2 := vg (vg_lit h2 (Nat.le_refl _) rfl)
    have vs2 : VS (bOf x) (bOf x + 1) 1 H x (1 + (Lib.decDigits k).length) ((45 :: Lib.decDigits k).map u8v) := vg2.vs
    have ap2 : ablt Tryd.prog ro .append [22, 22] [.slice (some ⟨h2.length, 0, none⟩) 1 1, e2 3] (h2 ++ [⟨5, [.int .u8 45]⟩]) = some (x, H) := ap
    have pfH := old.1 h (hp.trans p1) hl
    (repeat' first | simp -dsimp (disch := first | omega | assumption | (refine OkS.sto ?_ (by omega); first | assumption | (refine OkS.sto ?_ (by omega); first | assumption | (refine OkS.sto ?_ (by omega); first | assumption | (refine OkS.sto ?_ (by omega); first | assumption | (refine OkS.sto ?_ (by omega); first | assumption | (refine OkS.sto ?_ (by omega); first | assumption)))))) | exact Pfx.refl _ | (apply Pfx.snoc; repeat (first | exact Pfx.refl _ | assumption | apply Pfx.snoc)) | with_unfolding_all exact of_eq_true (eq_true rfl) | (simp only [List.length_append, List.length_cons, List.length_nil]; omega)) only [↓wpre0, ↓wpre1, ↓reduceIte, Int.reduceToNat, Nat.reduceAdd, Nat.reduceMul, Nat.reduceEqDiff, wpost0, wpost1, wpost2, wpost3, wpost4, ite_self, ite_true, ite_false, if_true, if_false, xbls22_0, xbls22_1, xlen22, bin_eql, bin_neq, bin_rem, bin_lss, un_neg, bin_add, xcv2_5, bin_quo, fr24, wrap_int, wrap_u8, iteP_yes, iteP_no, g0, ap2, conv_bytes Tryd.underlying22 Tryd.underlying9 tbt5 vs2] | refine iteP_two (fun hc hd => ?_) (fun hc hd => ?_) | refine iteP_intro (fun hc => ?_) (fun hc => ?_))
    all_goals trace_state
end Go.Proofs.YtikanmboimjhgaaDoor.Sim
