/- Jobs that have not ended: what the reference says. Lemmas only; no condition. -/
import Derived.Test.YtbakaopgdcojfaaSle
set_option linter.unusedSimpArgs false
set_option linter.unusedVariables false
set_option maxRecDepth 8000
namespace Go.Proofs.Ytbakaopgdcojfaa.Sim
open Go Go.RowKit
variable {ro : Nat} {X : Ext}
theorem tdiv_range {u v : Int} (hu : 0 ≤ u) (hv : 1 ≤ v) : u.tdiv v = u / v ∧ 0 ≤ u / v ∧ u / v ≤ u := by
  refine ⟨Int.tdiv_eq_ediv_of_nonneg hu, Int.ediv_nonneg hu (by omega), ?_⟩
  exact Int.ediv_le_self _ hu
set_option maxHeartbeats 4000000 in
theorem sMissed_c (hX : XN X) {lo hi lo2 hi2 n m : Nat} {l s : List Int} {x y : Value} {h : Heap} {u : Int} (hI : IS lo hi 4 h x n l) (hS : IS lo2 hi2 2 h y m s) (hn : n ≤ 1048576) (hm : m ≤ 1048576) (hro : ro ≤ h.length) :
    CallR Try.prog ro X 48 [x, y, .int .i64 u] h (fun r h' => ResL h h' r (plU n l m s u) (missL n l m s u n)) := by
  refine callR_of (hX _ rfl) Try.func48 rfl (by kernel_rfl) (Nat.le_of_ble_eq_true rfl) ?_
  cases hb : isB n l with
  | false =>
    have hp : plU n l m s u = false := by simp [plU, plB, hb]
    (repeat' first | simp -dsimp (disch := first | omega | assumption | (refine OkS.sto ?_ (by omega); first | assumption | (refine OkS.sto ?_ (by omega); first | assumption | (refine OkS.sto ?_ (by omega); first | assumption | (refine OkS.sto ?_ (by omega); first | assumption | (refine OkS.sto ?_ (by omega); first | assumption | (refine OkS.sto ?_ (by omega); first | assumption)))))) | exact Pfx.refl _ | (apply Pfx.snoc; repeat (first | exact Pfx.refl _ | assumption | apply Pfx.snoc)) | with_unfolding_all exact of_eq_true (eq_true rfl) | (simp only [List.length_append, List.length_cons, List.length_nil]; omega)) only [↓wpre0, ↓wpre1, ↓reduceIte, Int.reduceToNat, Nat.reduceAdd, Nat.reduceMul, Nat.reduceEqDiff, wpost0, wpost1, wpost2, wpost3, wpost4, ite_self, ite_true, ite_false, if_true, if_false, un_not, xbls63_0, xbls63_1, xlen42, bin_lss, xiad42, xfad98_2, xld2, bin_quo, xlen56, xiad56, xfad115_0, bin_eql, xfad115_1, xfad98_1, bin_add, bin_leq, bin_sub, fr48, wrap_int, wrap_u8, iteP_yes, iteP_no, l09Is_r hX hI hn hro, hb] | refine iteP_two (fun hc hd => ?_) (fun hc hd => ?_) | refine iteP_intro (fun hc => ?_) (fun hc => ?_))
    exact resL_no (Pfx.refl _) hp
  | true =>
  cases hsb : slB n l m s with
  | false =>
    have hp : plU n l m s u = false := by simp [plU, plB, hb, hsb]
    (repeat' first | simp -dsimp (disch := first | omega | assumption | (refine OkS.sto ?_ (by omega); first | assumption | (refine OkS.sto ?_ (by omega); first | assumption | (refine OkS.sto ?_ (by omega); first | assumption | (refine OkS.sto ?_ (by omega); first | assumption | (refine OkS.sto ?_ (by omega); first | assumption | (refine OkS.sto ?_ (by omega); first | assumption)))))) | exact Pfx.refl _ | (apply Pfx.snoc; repeat (first | exact Pfx.refl _ | assumption | apply Pfx.snoc)) | with_unfolding_all exact of_eq_true (eq_true rfl) | (simp only [List.length_append, List.length_cons, List.length_nil]; omega)) only [↓wpre0, ↓wpre1, ↓reduceIte, Int.reduceToNat, Nat.reduceAdd, Nat.reduceMul, Nat.reduceEqDiff, wpost0, wpost1, wpost2, wpost3, wpost4, ite_self, ite_true, ite_false, if_true, if_false, un_not, xbls63_0, xbls63_1, xlen42, bin_lss, xiad42, xfad98_2, xld2, bin_quo, xlen56, xiad56, xfad115_0, bin_eql, xfad115_1, xfad98_1, bin_add, bin_leq, bin_sub, fr48, wrap_int, wrap_u8, iteP_yes, iteP_no, l09Is_r hX hI hn hro, hb, l09Slots_r hX hI hS hb hm hro, hsb] | refine iteP_two (fun hc hd => ?_) (fun hc hd => ?_) | refine iteP_intro (fun hc => ?_) (fun hc => ?_))
    exact resL_no (Pfx.refl _) hp
  | true =>
  by_cases hu : 0 ≤ u ∧ u ≤ 100000
  · have hp : plU n l m s u = true := by simp [plU, plB, hb, hsb, hu]
    have huB : (decide (0 ≤ u) && decide (u ≤ 100000)) = true := by simp [hu]
    obtain ⟨hm2, hok⟩ := slB_ok hsb
    have hnn := isB_n hb
    (repeat' first | simp -dsimp (disch := first | omega | assumption | (refine OkS.sto ?_ (by omega); first | assumption | (refine OkS.sto ?_ (by omega); first | assumption | (refine OkS.sto ?_ (by omega); first | assumption | (refine OkS.sto ?_ (by omega); first | assumption | (refine OkS.sto ?_ (by omega); first | assumption | (refine OkS.sto ?_ (by omega); first | assumption)))))) | exact Pfx.refl _ | (apply Pfx.snoc; repeat (first | exact Pfx.refl _ | assumption | apply Pfx.snoc)) | with_unfolding_all exact of_eq_true (eq_true rfl) | (simp only [List.length_append, List.length_cons, List.length_nil]; omega)) only [↓wpre0, ↓wpre1, ↓reduceIte, Int.reduceToNat, Nat.reduceAdd, Nat.reduceMul, Nat.reduceEqDiff, wpost0, wpost1, wpost2, wpost3, wpost4, ite_self, ite_true, ite_false, if_true, if_false, un_not, xbls63_0, xbls63_1, xlen42, bin_lss, xiad42, xfad98_2, xld2, bin_quo, xlen56, xiad56, xfad115_0, bin_eql, xfad115_1, xfad98_1, bin_add, bin_leq, bin_sub, fr48, wrap_int, wrap_u8, iteP_yes, iteP_no, l09Is_r hX hI hn hro, hb, l09Slots_r hX hI hS hb hm hro, hsb, l00In_r hX, huB, hI.len Try.underlying42, hS.len Try.underlying56] | refine iteP_two (fun hc hd => ?_) (fun hc hd => ?_) | refine iteP_intro (fun hc => ?_) (fun hc => ?_))
    refine loop_rounds (fun k e h' => ∃ (i : Nat) (yv : Value), k = n - i ∧ i ≤ n ∧ VG h.length 2 1 h' yv i (vints (missL n l m s u i)) ∧ Pfx h h' ∧ e 0 = x ∧ e 1 = y ∧ e 2 = .int .i64 u ∧ e 8 = yv ∧ e 29 = .int .i64 n ∧ e 30 = .int .i64 i) _ ⟨0, .slice (some ⟨h.length, 0, none⟩) 0 0, rfl, ?_⟩ ?_
    · simp only [updO_at, updO_not, entry_at, List.getD_cons_zero, List.getD_cons_succ, ↓reduceIte, Nat.reduceEqDiff, true_and, and_true]
      exact ⟨by omega, vg_new h (Nat.le_refl _), (Pfx.refl h).snoc, by simp⟩
    rintro k e h' ⟨i, yv, hk, him, hG, hpx, g0, g1, g2, g8, g29, g30⟩
    have hl := hpx.len
    by_cases hin : i < n
    · have bb := br hb hin
      have bd := bb.d
      have bp := bb.p
      have hgb := hG.bof
      obtain ⟨t1, t2, t3⟩ := tdiv_range hu.1 (show 1 ≤ nth l (i * 4 + 3) by omega)
      have tw : IntKind.i64.wrap (u.tdiv (nth l (i * 4 + 3))) = u / nth l (i * 4 + 3) := by rw [t1]; exact wrap_int (by omega) (by omega)
      have hq := bin_quo (P := Try.prog) 2 .i64 u (nth l (i * 4 + 3)) (by omega)
      rw [tw] at hq
      (repeat' first | simp -dsimp (disch := first | omega | assumption | (refine OkS.sto ?_ (by omega); first | assumption | (refine OkS.sto ?_ (by omega); first | assumption | (refine OkS.sto ?_ (by omega); first | assumption | (refine OkS.sto ?_ (by omega); first | assumption | (refine OkS.sto ?_ (by omega); first | assumption | (refine OkS.sto ?_ (by omega); first | assumption)))))) | exact Pfx.refl _ | (apply Pfx.snoc; repeat (first | exact Pfx.refl _ | assumption | apply Pfx.snoc)) | with_unfolding_all exact of_eq_true (eq_true rfl) | (simp only [List.length_append, List.length_cons, List.length_nil]; omega)) only [↓wpre0, ↓wpre1, ↓reduceIte, Int.reduceToNat, Nat.reduceAdd, Nat.reduceMul, Nat.reduceEqDiff, wpost0, wpost1, wpost2, wpost3, wpost4, ite_self, ite_true, ite_false, if_true, if_false, un_not, xbls63_0, xbls63_1, xlen42, bin_lss, xiad42, xfad98_2, xld2, bin_quo, xlen56, xiad56, xfad115_0, bin_eql, xfad115_1, xfad98_1, bin_add, bin_leq, bin_sub, fr48, wrap_int, wrap_u8, iteP_yes, iteP_no, g0, g1, g2, g8, g29, g30, hS.len Try.underlying56, IS.iad hI Try.underlying42 tsz98, IS.fad hI tfi98_2 (by decide), IS.ld1p hI tsz2 tag2, hq] | refine iteP_two (fun hc hd => ?_) (fun hc hd => ?_) | refine iteP_intro (fun hc => ?_) (fun hc => ?_))
      refine loop_rounds (fun k2 e h2 => ∃ j : Nat, k2 = m - j ∧ j ≤ m ∧ h2 = h' ∧ e 0 = x ∧ e 1 = y ∧ e 2 = .int .i64 u ∧ e 8 = yv ∧ e 9 = .int .i64 i ∧ e 10 = .int .i64 (u / nth l (i * 4 + 3)) ∧ e 29 = .int .i64 n ∧ e 30 = .int .i64 i ∧ e 41 = .int .i64 m ∧ e 11 = .int .i64 (dn l s u i j) ∧ e 42 = .int .i64 j) _ ⟨0, rfl, ?_⟩ ?_
      · simp only [updO_at, updO_not, entry_at, List.getD_cons_zero, List.getD_cons_succ, ↓reduceIte, Nat.reduceEqDiff, true_and, and_true]
        exact ⟨by omega, g0, g1, g2, g8, g29, g30, rfl, rfl⟩
      rintro k2 e h2 ⟨j, hk2, hjm, rfl, g0, g1, g2, g8, g9, g10, g29, g30, g41, g11, g42⟩
      have hdr := dn_range l s u i j
      by_cases hjn : j < m
      · have o := hok j hjn
        have at0 := o.at0 hb
        have at1 := o.a1
        (repeat' first | simp -dsimp (disch := first | omega | assumption | (refine OkS.sto ?_ (by omega); first | assumption | (refine OkS.sto ?_ (by omega); first | assumption | (refine OkS.sto ?_ (by omega); first | assumption | (refine OkS.sto ?_ (by omega); first | assumption | (refine OkS.sto ?_ (by omega); first | assumption | (refine OkS.sto ?_ (by omega); first | assumption)))))) | exact Pfx.refl _ | (apply Pfx.snoc; repeat (first | exact Pfx.refl _ | assumption | apply Pfx.snoc)) | with_unfolding_all exact of_eq_true (eq_true rfl) | (simp only [List.length_append, List.length_cons, List.length_nil]; omega)) only [↓wpre0, ↓wpre1, ↓reduceIte, Int.reduceToNat, Nat.reduceAdd, Nat.reduceMul, Nat.reduceEqDiff, wpost0, wpost1, wpost2, wpost3, wpost4, ite_self, ite_true, ite_false, if_true, if_false, un_not, xbls63_0, xbls63_1, xlen42, bin_lss, xiad42, xfad98_2, xld2, bin_quo, xlen56, xiad56, xfad115_0, bin_eql, xfad115_1, xfad98_1, bin_add, bin_leq, bin_sub, fr48, wrap_int, wrap_u8, iteP_yes, iteP_no, g0, g1, g2, g8, g9, g10, g29, g30, g41, g11, g42, IS.iad hS Try.underlying56 tsz115, IS.fad hS tfi115_0 (by decide), IS.fad hS tfi115_1 (by decide), IS.ld1p hS tsz2 tag2, IS.iad hI Try.underlying42 tsz98, IS.fad hI tfi98_1 (by decide), IS.ld1p hI tsz2 tag2] | refine iteP_two (fun hc hd => ?_) (fun hc hd => ?_) | refine iteP_intro (fun hc => ?_) (fun hc => ?_))
        all_goals
          refine ⟨_, by omega, j + 1, rfl, by omega, ?_, by simp⟩
          simp only [dn, dnB, *, decide_true, decide_false, Bool.and_self, Bool.false_and, Bool.and_false, if_true, Bool.false_eq_true, if_false, Int.add_zero]
      · have : j = m := by omega
        subst this
        obtain ⟨H, ap, vg, old, hH⟩ := acc1 (P := Try.prog) (ro := ro) (T := 63) (v := .int .i64 (missI l j s u i)) tel63 tsz2 tby2 tze2 (.inl hG) (by omega) (by omega) rfl (by omega) (by omega)
        rw [show missI l j s u i = max 0 (u / nth l (i * 4 + 3) - dn l s u i j) from rfl] at ap
        (repeat' first | simp -dsimp (disch := first | omega | assumption | (refine OkS.sto ?_ (by omega); first | assumption | (refine OkS.sto ?_ (by omega); first | assumption | (refine OkS.sto ?_ (by omega); first | assumption | (refine OkS.sto ?_ (by omega); first | assumption | (refine OkS.sto ?_ (by omega); first | assumption | (refine OkS.sto ?_ (by omega); first | assumption)))))) | exact Pfx.refl _ | (apply Pfx.snoc; repeat (first | exact Pfx.refl _ | assumption | apply Pfx.snoc)) | with_unfolding_all exact of_eq_true (eq_true rfl) | (simp only [List.length_append, List.length_cons, List.length_nil]; omega)) only [↓wpre0, ↓wpre1, ↓reduceIte, Int.reduceToNat, Nat.reduceAdd, Nat.reduceMul, Nat.reduceEqDiff, wpost0, wpost1, wpost2, wpost3, wpost4, ite_self, ite_true, ite_false, if_true, if_false, un_not, xbls63_0, xbls63_1, xlen42, bin_lss, xiad42, xfad98_2, xld2, bin_quo, xlen56, xiad56, xfad115_0, bin_eql, xfad115_1, xfad98_1, bin_add, bin_leq, bin_sub, fr48, wrap_int, wrap_u8, iteP_yes, iteP_no, g0, g1, g2, g8, g9, g10, g29, g30, g41, g11, g42, l00Max_r hX, ap] | refine iteP_two (fun hc hd => ?_) (fun hc hd => ?_) | refine iteP_intro (fun hc => ?_) (fun hc => ?_))
        refine ⟨_, by omega, i + 1, _, rfl, by omega, ?_, old.1 _ hpx (by omega), rfl, by simp⟩
        rw [missL_succ]
        exact vg
    · have : i = n := by omega
      subst this
      (repeat' first | simp -dsimp (disch := first | omega | assumption | (refine OkS.sto ?_ (by omega); first | assumption | (refine OkS.sto ?_ (by omega); first | assumption | (refine OkS.sto ?_ (by omega); first | assumption | (refine OkS.sto ?_ (by omega); first | assumption | (refine OkS.sto ?_ (by omega); first | assumption | (refine OkS.sto ?_ (by omega); first | assumption)))))) | exact Pfx.refl _ | (apply Pfx.snoc; repeat (first | exact Pfx.refl _ | assumption | apply Pfx.snoc)) | with_unfolding_all exact of_eq_true (eq_true rfl) | (simp only [List.length_append, List.length_cons, List.length_nil]; omega)) only [↓wpre0, ↓wpre1, ↓reduceIte, Int.reduceToNat, Nat.reduceAdd, Nat.reduceMul, Nat.reduceEqDiff, wpost0, wpost1, wpost2, wpost3, wpost4, ite_self, ite_true, ite_false, if_true, if_false, un_not, xbls63_0, xbls63_1, xlen42, bin_lss, xiad42, xfad98_2, xld2, bin_quo, xlen56, xiad56, xfad115_0, bin_eql, xfad115_1, xfad98_1, bin_add, bin_leq, bin_sub, fr48, wrap_int, wrap_u8, iteP_yes, iteP_no, g0, g1, g2, g8, g29, g30] | refine iteP_two (fun hc hd => ?_) (fun hc hd => ?_) | refine iteP_intro (fun hc => ?_) (fun hc => ?_))
      rw [endH_not (by cases hG with | intro _ g => obtain ⟨b, cap, rfl, _⟩ := g; rfl)]
      exact resL_yes hpx hp (by omega) hG
  · have huB : (decide (0 ≤ u) && decide (u ≤ 100000)) = false := by simp; omega
    have hp : plU n l m s u = false := by simp only [plU, huB, Bool.and_false]
    (repeat' first | simp -dsimp (disch := first | omega | assumption | (refine OkS.sto ?_ (by omega); first | assumption | (refine OkS.sto ?_ (by omega); first | assumption | (refine OkS.sto ?_ (by omega); first | assumption | (refine OkS.sto ?_ (by omega); first | assumption | (refine OkS.sto ?_ (by omega); first | assumption | (refine OkS.sto ?_ (by omega); first | assumption)))))) | exact Pfx.refl _ | (apply Pfx.snoc; repeat (first | exact Pfx.refl _ | assumption | apply Pfx.snoc)) | with_unfolding_all exact of_eq_true (eq_true rfl) | (simp only [List.length_append, List.length_cons, List.length_nil]; omega)) only [↓wpre0, ↓wpre1, ↓reduceIte, Int.reduceToNat, Nat.reduceAdd, Nat.reduceMul, Nat.reduceEqDiff, wpost0, wpost1, wpost2, wpost3, wpost4, ite_self, ite_true, ite_false, if_true, if_false, un_not, xbls63_0, xbls63_1, xlen42, bin_lss, xiad42, xfad98_2, xld2, bin_quo, xlen56, xiad56, xfad115_0, bin_eql, xfad115_1, xfad98_1, bin_add, bin_leq, bin_sub, fr48, wrap_int, wrap_u8, iteP_yes, iteP_no, l09Is_r hX hI hn hro, hb, l09Slots_r hX hI hS hb hm hro, hsb, l00In_r hX, huB] | refine iteP_two (fun hc hd => ?_) (fun hc hd => ?_) | refine iteP_intro (fun hc => ?_) (fun hc => ?_))
    exact resL_no (Pfx.refl _) hp
end Go.Proofs.Ytbakaopgdcojfaa.Sim
