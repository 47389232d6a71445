/- How late the jobs of slots are: what the program says. Lemmas only; no condition. -/
import Derived.Test.YtbakaopgdcojfaaSlc
set_option linter.unusedSimpArgs false
set_option linter.unusedVariables false
set_option maxRecDepth 8000
namespace Go.Proofs.Ytbakaopgdcojfaa.Sim
open Go Go.RowKit
variable {ro : Nat}
set_option maxHeartbeats 4000000 in
theorem iLate_c {lo hi lo2 hi2 n m : Nat} {l s : List Int} {x y : Value} {h : Heap} (hI : IS lo hi 4 h x n l) (hS : IS lo2 hi2 2 h y m s) (hn : n ≤ 1048576) (hm : m ≤ 1048576) (hr64 : ∀ j, j < m → r64 (nth s (j * 2))) (hro : ro ≤ h.length) :
    CallR Try.prog ro (extJ ro) 44 [x, y] h (fun r h' => ResL h h' r (plB n l m s) (lateL l m s m)) := by
  have hX := extJ_n (ro := ro)
  refine callR_of (hX _ rfl) Try.func44 rfl (by kernel_rfl) (Nat.le_of_ble_eq_true rfl) ?_
  cases hp : plB n l m s with
  | false =>
    have hpl := isPlan_r (ro := ro) hI hS hn hm hr64 hro
    rw [show (isB n l && slB n l m s) = false from hp] at hpl
    (repeat' first | simp -dsimp (disch := first | omega | assumption | (refine OkS.sto ?_ (by omega); first | assumption | (refine OkS.sto ?_ (by omega); first | assumption | (refine OkS.sto ?_ (by omega); first | assumption | (refine OkS.sto ?_ (by omega); first | assumption | (refine OkS.sto ?_ (by omega); first | assumption | (refine OkS.sto ?_ (by omega); first | assumption)))))) | exact Pfx.refl _ | (apply Pfx.snoc; repeat (first | exact Pfx.refl _ | assumption | apply Pfx.snoc)) | with_unfolding_all exact of_eq_true (eq_true rfl) | (simp only [List.length_append, List.length_cons, List.length_nil]; omega)) only [↓wpre0, ↓wpre1, ↓reduceIte, Int.reduceToNat, Nat.reduceAdd, Nat.reduceMul, Nat.reduceEqDiff, wpost0, wpost1, wpost2, wpost3, wpost4, ite_self, ite_true, ite_false, if_true, if_false, un_not, xbls63_0, xbls63_1, xlen56, bin_lss, xiad56, xld115, tze115, xst115, xfad115_0, xld2, xiad42, xld98, tze98, xst98, xfad115_1, xfad98_1, bin_add, xiad63, xfad98_2, bin_mul, bin_sub, blt_maxI, fr44, wrap_int, wrap_u8, iteP_yes, iteP_no, hpl] | refine iteP_two (fun hc hd => ?_) (fun hc hd => ?_) | refine iteP_intro (fun hc => ?_) (fun hc => ?_))
    exact resL_no (Pfx.refl _) rfl
  | true =>
    have hpl := isPlan_r (ro := ro) hI hS hn hm hr64 hro
    rw [show (isB n l && slB n l m s) = true from hp] at hpl
    obtain ⟨hb, hsb⟩ : isB n l = true ∧ slB n l m s = true := by simpa [plB] using hp
    obtain ⟨hm2, hok⟩ := slB_ok hsb
    have hnn := isB_n hb
    have hp0 : Pfx h (h ++ [(⟨2, []⟩ : Blk)]) := (Pfx.refl h).snoc
    have hl0 : (h ++ [(⟨2, []⟩ : Blk)]).length = h.length + 1 := by simp
    (repeat' first | simp -dsimp (disch := first | omega | assumption | (refine OkS.sto ?_ (by omega); first | assumption | (refine OkS.sto ?_ (by omega); first | assumption | (refine OkS.sto ?_ (by omega); first | assumption | (refine OkS.sto ?_ (by omega); first | assumption | (refine OkS.sto ?_ (by omega); first | assumption | (refine OkS.sto ?_ (by omega); first | assumption)))))) | exact Pfx.refl _ | (apply Pfx.snoc; repeat (first | exact Pfx.refl _ | assumption | apply Pfx.snoc)) | with_unfolding_all exact of_eq_true (eq_true rfl) | (simp only [List.length_append, List.length_cons, List.length_nil]; omega)) only [↓wpre0, ↓wpre1, ↓reduceIte, Int.reduceToNat, Nat.reduceAdd, Nat.reduceMul, Nat.reduceEqDiff, wpost0, wpost1, wpost2, wpost3, wpost4, ite_self, ite_true, ite_false, if_true, if_false, un_not, xbls63_0, xbls63_1, xlen56, bin_lss, xiad56, xld115, tze115, xst115, xfad115_0, xld2, xiad42, xld98, tze98, xst98, xfad115_1, xfad98_1, bin_add, xiad63, xfad98_2, bin_mul, bin_sub, blt_maxI, fr44, wrap_int, wrap_u8, iteP_yes, iteP_no, hpl, hS.len Try.underlying56] | refine iteP_two (fun hc hd => ?_) (fun hc hd => ?_) | refine iteP_intro (fun hc => ?_) (fun hc => ?_))
    refine cf_rel (jobs_r ⟨(hS.pre hp0).all, hr64, by omega, by omega⟩) (fun q => by cases q) ?_
    rintro r h1 ⟨p1, l1, hJ⟩
    rw [hl0] at l1 hJ
    (repeat' first | simp -dsimp (disch := first | omega | assumption | (refine OkS.sto ?_ (by omega); first | assumption | (refine OkS.sto ?_ (by omega); first | assumption | (refine OkS.sto ?_ (by omega); first | assumption | (refine OkS.sto ?_ (by omega); first | assumption | (refine OkS.sto ?_ (by omega); first | assumption | (refine OkS.sto ?_ (by omega); first | assumption)))))) | exact Pfx.refl _ | (apply Pfx.snoc; repeat (first | exact Pfx.refl _ | assumption | apply Pfx.snoc)) | with_unfolding_all exact of_eq_true (eq_true rfl) | (simp only [List.length_append, List.length_cons, List.length_nil]; omega)) only [↓wpre0, ↓wpre1, ↓reduceIte, Int.reduceToNat, Nat.reduceAdd, Nat.reduceMul, Nat.reduceEqDiff, wpost0, wpost1, wpost2, wpost3, wpost4, ite_self, ite_true, ite_false, if_true, if_false, un_not, xbls63_0, xbls63_1, xlen56, bin_lss, xiad56, xld115, tze115, xst115, xfad115_0, xld2, xiad42, xld98, tze98, xst98, xfad115_1, xfad98_1, bin_add, xiad63, xfad98_2, bin_mul, bin_sub, blt_maxI, fr44, wrap_int, wrap_u8, iteP_yes, iteP_no, hS.len Try.underlying56] | refine iteP_two (fun hc hd => ?_) (fun hc hd => ?_) | refine iteP_intro (fun hc => ?_) (fun hc => ?_))
    refine loop_rounds (fun k e h' => ∃ (i : Nat) (yv : Value), k = m - i ∧ i ≤ m ∧ IS (h.length + 1) (h.length + 1 + 1) 1 h' r m (jobsL (keysL m s) m) ∧ VG h.length 2 1 h' yv i (vints (lateL l m s i)) ∧ bOf yv ≠ h.length + 1 ∧ Pfx h h' ∧ h.length + 2 ≤ h'.length ∧ e 0 = x ∧ e 6 = yv ∧ e 7 = r ∧ e 18 = y ∧ e 19 = .int .i64 m ∧ e 20 = .int .i64 i) _ ⟨0, .slice (some ⟨h.length, 0, none⟩) 0 0, rfl, ?_⟩ ?_
    · simp only [updO_at, updO_not, entry_at, List.getD_cons_zero, List.getD_cons_succ, ↓reduceIte, Nat.reduceEqDiff, true_and, and_true]
      refine ⟨by omega, hJ, ?_, by simp [bOf], hp0.trans p1, by omega, rfl⟩
      exact (vg_new (lo := h.length) (t := 2) (k := 1) h (Nat.le_refl _)).pre p1
    rintro k e h' ⟨i, yv, hk, him, hJ, hG, hyb, hpx, hlh, g0, g6, g7, g18, g19, g20⟩
    by_cases hin : i < m
    · have o := hok i hin
      have b0 := o.b0
      have b1 := o.b1
      have at0 := o.at0 hb
      have at1 := o.a1
      have bb := (o.br hb).1
      have bd := bb.d
      have bp := bb.p
      have hcr := cn_range m s i (nth s (i * 2))
      have hgb := hG.bof
      have hpr := prod_range (c := cn m s i (nth s (i * 2)) + 1) (by omega) (by omega) (show 1 ≤ nth l ((nth s (i * 2)).toNat * 4 + 3) by omega) bp.2
      have hjn : nth (jobsL (keysL m s) m) (i * 1) = cn m s i (nth s (i * 2)) := by rw [Nat.mul_one]; exact jobs_nth hin
      generalize hbk : (⟨115, [.int .i64 (nth s (i * 2)), .int .i64 (nth s (i * 2 + 1))]⟩ : Blk) = bk
      generalize hbl : (⟨98, [.int .i64 (nth l ((nth s (i * 2)).toNat * 4)), .int .i64 (nth l ((nth s (i * 2)).toNat * 4 + 1)), .int .i64 (nth l ((nth s (i * 2)).toNat * 4 + 2)), .int .i64 (nth l ((nth s (i * 2)).toNat * 4 + 3))]⟩ : Blk) = bl
      have pA : Pfx h' (h' ++ [bk] ++ [bl]) := (Pfx.refl h').snoc.snoc
      have lA : (h' ++ [bk] ++ [bl]).length = h'.length + 2 := by simp
      obtain ⟨H, ap, vg, old, hH⟩ := acc1 (P := Try.prog) (ro := ro) (T := 63) (v := .int .i64 (lateI l m s i)) tel63 tsz2 tby2 tze2 (.inl (hG.pre pA)) (by omega) (by omega) rfl (by omega) (by omega)
      subst hbk
      subst hbl
      have hval : lateI l m s i = max 0 (nth s (i * 2 + 1) + nth l ((nth s (i * 2)).toNat * 4 + 2) - (cn m s i (nth s (i * 2)) + 1) * nth l ((nth s (i * 2)).toNat * 4 + 3)) := rfl
      rw [hval] at ap
      have hJA := hJ.pre pA
      (repeat' first | simp -dsimp (disch := first | omega | assumption | (refine OkS.sto ?_ (by omega); first | assumption | (refine OkS.sto ?_ (by omega); first | assumption | (refine OkS.sto ?_ (by omega); first | assumption | (refine OkS.sto ?_ (by omega); first | assumption | (refine OkS.sto ?_ (by omega); first | assumption | (refine OkS.sto ?_ (by omega); first | assumption)))))) | exact Pfx.refl _ | (apply Pfx.snoc; repeat (first | exact Pfx.refl _ | assumption | apply Pfx.snoc)) | with_unfolding_all exact of_eq_true (eq_true rfl) | (simp only [List.length_append, List.length_cons, List.length_nil]; omega)) only [↓wpre0, ↓wpre1, ↓reduceIte, Int.reduceToNat, Nat.reduceAdd, Nat.reduceMul, Nat.reduceEqDiff, wpost0, wpost1, wpost2, wpost3, wpost4, ite_self, ite_true, ite_false, if_true, if_false, un_not, xbls63_0, xbls63_1, xlen56, bin_lss, xiad56, xld115, tze115, xst115, xfad115_0, xld2, xiad42, xld98, tze98, xst98, xfad115_1, xfad98_1, bin_add, xiad63, xfad98_2, bin_mul, bin_sub, blt_maxI, fr44, wrap_int, wrap_u8, iteP_yes, iteP_no, g0, g6, g7, g18, g19, g20, hjn, hS.len Try.underlying56, IS.iad hS Try.underlying56 tsz115, IS.ldmp hS tsz115 tag115, IS.iad hI Try.underlying42 tsz98, IS.ldmp hI tsz98 tag98, IS.iad hJ Try.underlying63 tsz2, IS.ld1p hJ tsz2 tag2, ap] | refine iteP_two (fun hc hd => ?_) (fun hc hd => ?_) | refine iteP_intro (fun hc => ?_) (fun hc => ?_))
      refine ⟨_, by omega, i + 1, _, rfl, by omega, hJA.frame fun b q1 q2 => old.2.1 b (by omega) (.inr (by omega)), ?_, ?_, old.1 _ (hpx.trans pA) (by omega), by omega, rfl, by simp⟩
      · rw [lateL_succ]
        exact vg
      · simp only [bOf]; omega
    · have : i = m := by omega
      subst this
      (repeat' first | simp -dsimp (disch := first | omega | assumption | (refine OkS.sto ?_ (by omega); first | assumption | (refine OkS.sto ?_ (by omega); first | assumption | (refine OkS.sto ?_ (by omega); first | assumption | (refine OkS.sto ?_ (by omega); first | assumption | (refine OkS.sto ?_ (by omega); first | assumption | (refine OkS.sto ?_ (by omega); first | assumption)))))) | exact Pfx.refl _ | (apply Pfx.snoc; repeat (first | exact Pfx.refl _ | assumption | apply Pfx.snoc)) | with_unfolding_all exact of_eq_true (eq_true rfl) | (simp only [List.length_append, List.length_cons, List.length_nil]; omega)) only [↓wpre0, ↓wpre1, ↓reduceIte, Int.reduceToNat, Nat.reduceAdd, Nat.reduceMul, Nat.reduceEqDiff, wpost0, wpost1, wpost2, wpost3, wpost4, ite_self, ite_true, ite_false, if_true, if_false, un_not, xbls63_0, xbls63_1, xlen56, bin_lss, xiad56, xld115, tze115, xst115, xfad115_0, xld2, xiad42, xld98, tze98, xst98, xfad115_1, xfad98_1, bin_add, xiad63, xfad98_2, bin_mul, bin_sub, blt_maxI, fr44, wrap_int, wrap_u8, iteP_yes, iteP_no, g0, g6, g7, g18, g19, g20] | refine iteP_two (fun hc hd => ?_) (fun hc hd => ?_) | refine iteP_intro (fun hc => ?_) (fun hc => ?_))
      rw [endH_not (by cases hG with | intro _ g => obtain ⟨b, cap, rfl, _⟩ := g; rfl)]
      exact resL_yes hpx rfl (by omega) hG
end Go.Proofs.Ytbakaopgdcojfaa.Sim
