/- Slices of whole numbers: what the functions that compare, mark and hold them come to. Printed by a program of this session. Lemmas only; no condition. -/
import Derived.Test.YtbakaopgdcojfaaSimV
import Derived.Test.YtbakaopgdcojfaaSimU
import Derived.Test.YtbakaopgdcojfaaFlatE
set_option linter.unusedSimpArgs false
set_option linter.unusedVariables false
namespace Go.Proofs.Ytbakaopgdcojfaa.Sim
open Go Go.RowKit
variable {ro : Nat} {X : Ext}
theorem eqInt64S_r (hX : XN X) {lo hi n lo' hi' n' : Nat} {l l' : List Int} {x y : Value} {h : Heap} (hI : IS lo hi 1 h x n l) (hJ : IS lo' hi' 1 h y n' l') (hn : n ≤ 1099511627776) (hn' : n' ≤ 1099511627776) (hro : ro ≤ h.length) : Ret Try.prog ro X 45 [x, y] h (.bool (decide (l = l'))) := by
  refine ret_of (callR_of (hX _ rfl) Try.func45 rfl (by kernel_rfl) (Nat.le_of_ble_eq_true rfl) ?_)
  (repeat' first | simp -dsimp (disch := first | omega | assumption | (refine OkS.sto ?_ (by omega); first | assumption | (refine OkS.sto ?_ (by omega); first | assumption | (refine OkS.sto ?_ (by omega); first | assumption | (refine OkS.sto ?_ (by omega); first | assumption | (refine OkS.sto ?_ (by omega); first | assumption | (refine OkS.sto ?_ (by omega); first | assumption)))))) | exact Pfx.refl _ | (apply Pfx.snoc; repeat (first | exact Pfx.refl _ | assumption | apply Pfx.snoc)) | with_unfolding_all exact of_eq_true (eq_true rfl) | (simp only [List.length_append, List.length_cons, List.length_nil]; omega)) only [↓wpre0, ↓wpre1, ↓reduceIte, Int.reduceToNat, Nat.reduceAdd, Nat.reduceMul, Nat.reduceEqDiff, wpost0, wpost1, wpost2, wpost3, wpost4, ite_self, ite_true, ite_false, if_true, if_false, xlen63, bin_neq, bin_lss, xiad63, xld2, bin_add, fr45, wrap_int, wrap_u8, iteP_yes, iteP_no, hI.len Try.underlying63, hJ.len Try.underlying63] | refine iteP_two (fun hc hd => ?_) (fun hc hd => ?_) | refine iteP_intro (fun hc => ?_) (fun hc => ?_))
  · rw [decide_eq_false (ne_of_len hI.1 hJ.1 (by omega))]
  refine loop_rounds (fun m e h' => ∃ i : Nat, m = n - i ∧ i ≤ n ∧ h' = h ∧ e 0 = x ∧ e 1 = y ∧ e 5 = .int .i64 i ∧ agr (i * 1) l l') _ ⟨0, rfl, ?_⟩ ?_
  · simp only [updO_at, updO_not, entry_at, List.getD_cons_zero, List.getD_cons_succ, ↓reduceIte, Nat.reduceEqDiff, true_and, and_true]
    refine ⟨by omega, rfl, ?_⟩
    rw [Nat.zero_mul]
    exact agr_zero _ _
  · rintro m e h' ⟨i, hm, hle, rfl, g0, g1, g5, hall⟩
    (repeat' first | simp -dsimp (disch := first | omega | assumption | (refine OkS.sto ?_ (by omega); first | assumption | (refine OkS.sto ?_ (by omega); first | assumption | (refine OkS.sto ?_ (by omega); first | assumption | (refine OkS.sto ?_ (by omega); first | assumption | (refine OkS.sto ?_ (by omega); first | assumption | (refine OkS.sto ?_ (by omega); first | assumption)))))) | exact Pfx.refl _ | (apply Pfx.snoc; repeat (first | exact Pfx.refl _ | assumption | apply Pfx.snoc)) | with_unfolding_all exact of_eq_true (eq_true rfl) | (simp only [List.length_append, List.length_cons, List.length_nil]; omega)) only [↓wpre0, ↓wpre1, ↓reduceIte, Int.reduceToNat, Nat.reduceAdd, Nat.reduceMul, Nat.reduceEqDiff, wpost0, wpost1, wpost2, wpost3, wpost4, ite_self, ite_true, ite_false, if_true, if_false, xlen63, bin_neq, bin_lss, xiad63, xld2, bin_add, fr45, wrap_int, wrap_u8, iteP_yes, iteP_no, g0, g1, g5, hI.len Try.underlying63, IS.iad hI Try.underlying63 tsz2, IS.ld1 hI tsz2 tag2, IS.iad hJ Try.underlying63 tsz2, IS.ld1 hJ tsz2 tag2] | refine iteP_two (fun hc hd => ?_) (fun hc hd => ?_) | refine iteP_intro (fun hc => ?_) (fun hc => ?_))
    all_goals first
      | (refine ⟨_, by omega, i + 1, rfl, by omega, rfl, ?_⟩
         rw [show (i + 1) * 1 = i * 1 + 1 by omega]
         exact hall.succ (by omega))
      | (rw [decide_eq_false (ne_of_nth (by assumption))]; done)
      | (have : i = n := by omega
         subst this
         rw [decide_eq_true (hall.all hI.1 (by rw [hJ.1]; omega))]; done)
      | skip

theorem markInt64S_c (hX : XN X) {lo hi n : Nat} {l : List Int} {x : Value} {h : Heap} {c : Int} (hI : IS lo hi 1 h x n l) (hn : n ≤ 1099511627776) (hro : ro ≤ lo) (hc0 : 0 ≤ c) (hc1 : c ≤ 1152921504606846976) : CallR Try.prog ro X 46 [x, .int .i64 c] h (fun r h' => r = .int .i64 (c + (n * 1 : Nat)) ∧ IS lo hi 1 h' x n (mrk c (n * 1) l) ∧ Rng lo hi h h') := by
  refine callR_of (hX _ rfl) Try.func46 rfl (by kernel_rfl) (Nat.le_of_ble_eq_true rfl) ?_
  (repeat' first | simp -dsimp (disch := first | omega | assumption | (refine OkS.sto ?_ (by omega); first | assumption | (refine OkS.sto ?_ (by omega); first | assumption | (refine OkS.sto ?_ (by omega); first | assumption | (refine OkS.sto ?_ (by omega); first | assumption | (refine OkS.sto ?_ (by omega); first | assumption | (refine OkS.sto ?_ (by omega); first | assumption)))))) | exact Pfx.refl _ | (apply Pfx.snoc; repeat (first | exact Pfx.refl _ | assumption | apply Pfx.snoc)) | with_unfolding_all exact of_eq_true (eq_true rfl) | (simp only [List.length_append, List.length_cons, List.length_nil]; omega)) only [↓wpre0, ↓wpre1, ↓reduceIte, Int.reduceToNat, Nat.reduceAdd, Nat.reduceMul, Nat.reduceEqDiff, wpost0, wpost1, wpost2, wpost3, wpost4, ite_self, ite_true, ite_false, if_true, if_false, xlen63, bin_lss, xiad63, xst2, bin_add, fr46, wrap_int, wrap_u8, iteP_yes, iteP_no] | refine iteP_two (fun hc hd => ?_) (fun hc hd => ?_) | refine iteP_intro (fun hc => ?_) (fun hc => ?_))
  refine loop_rounds (fun m e h' => ∃ i : Nat, m = n - i ∧ i ≤ n ∧ IS lo hi 1 h' x n (mrk c (i * 1) l) ∧ Rng lo hi h h' ∧ e 0 = x ∧ e 1 = .int .i64 (c + (i * 1 : Nat)) ∧ e 5 = .int .i64 i) _ ⟨0, rfl, ?_⟩ ?_
  · simp only [updO_at, updO_not, entry_at, List.getD_cons_zero, List.getD_cons_succ, ↓reduceIte, Nat.reduceEqDiff, true_and, and_true]
    refine ⟨by omega, ?_, .refl _ _ _, ?_, rfl⟩
    · rw [Nat.zero_mul, mrk_zero]; exact hI
    · simp
  · rintro m e h' ⟨i, hm, hle, hI', ho, g0, g1, g5⟩
    have hok := hI'.ok
    have hlen := ho.1
    have hll := hI.1
    (repeat' first | simp -dsimp (disch := first | omega | assumption | (refine OkS.sto ?_ (by omega); first | assumption | (refine OkS.sto ?_ (by omega); first | assumption | (refine OkS.sto ?_ (by omega); first | assumption | (refine OkS.sto ?_ (by omega); first | assumption | (refine OkS.sto ?_ (by omega); first | assumption | (refine OkS.sto ?_ (by omega); first | assumption)))))) | exact Pfx.refl _ | (apply Pfx.snoc; repeat (first | exact Pfx.refl _ | assumption | apply Pfx.snoc)) | with_unfolding_all exact of_eq_true (eq_true rfl) | (simp only [List.length_append, List.length_cons, List.length_nil]; omega)) only [↓wpre0, ↓wpre1, ↓reduceIte, Int.reduceToNat, Nat.reduceAdd, Nat.reduceMul, Nat.reduceEqDiff, wpost0, wpost1, wpost2, wpost3, wpost4, ite_self, ite_true, ite_false, if_true, if_false, xlen63, bin_lss, xiad63, xst2, bin_add, fr46, wrap_int, wrap_u8, iteP_yes, iteP_no, g0, g1, g5, hI'.len Try.underlying63, IS.iad hI' Try.underlying63 tsz2, stv_sto (lo := lo) (hi := hi) (k := 1) (n := n) (x := x) tsz2 hro, endH_len hlen] | refine iteP_two (fun hc hd => ?_) (fun hc hd => ?_) | refine iteP_intro (fun hc => ?_) (fun hc => ?_))
    · refine ⟨_, by omega, i + 1, rfl, by omega, ?_, ?_, ?_, by simp⟩
      · rw [show (i + 1) * 1 = i * 1 + 1 by omega]
        have s0 := hI'
        have s1 := s0.sto (c := i * 1) (by omega) (c + (i * 1 : Nat))
        rw [mrk_set (by omega) (by push_cast; omega)] at s1
        exact s1
      · exact ho.trans ((only_sto _ _ _ _).rng (hI'.bof (by omega)).1 (hI'.bof (by omega)).2.1)
      · congr 1; push_cast; omega
    · have : i = n := by omega
      subst this
      exact ⟨rfl, hI', ho⟩

theorem heldInt64S_r (hX : XN X) {lo hi n : Nat} {l : List Int} {x : Value} {h : Heap} {c : Int} (hI : IS lo hi 1 h x n l) (hM : Mrkd c l) (hn : n ≤ 1099511627776) (hc0 : 0 ≤ c) (hc1 : c ≤ 1152921504606846976) : Ret Try.prog ro X 47 [x, .int .i64 c] h (.int .i64 (c + (n * 1 : Nat))) := by
  refine ret_of (callR_of (hX _ rfl) Try.func47 rfl (by kernel_rfl) (Nat.le_of_ble_eq_true rfl) ?_)
  (repeat' first | simp -dsimp (disch := first | omega | assumption | (refine OkS.sto ?_ (by omega); first | assumption | (refine OkS.sto ?_ (by omega); first | assumption | (refine OkS.sto ?_ (by omega); first | assumption | (refine OkS.sto ?_ (by omega); first | assumption | (refine OkS.sto ?_ (by omega); first | assumption | (refine OkS.sto ?_ (by omega); first | assumption)))))) | exact Pfx.refl _ | (apply Pfx.snoc; repeat (first | exact Pfx.refl _ | assumption | apply Pfx.snoc)) | with_unfolding_all exact of_eq_true (eq_true rfl) | (simp only [List.length_append, List.length_cons, List.length_nil]; omega)) only [↓wpre0, ↓wpre1, ↓reduceIte, Int.reduceToNat, Nat.reduceAdd, Nat.reduceMul, Nat.reduceEqDiff, wpost0, wpost1, wpost2, wpost3, wpost4, ite_self, ite_true, ite_false, if_true, if_false, xlen63, bin_lss, xiad63, xld2, bin_neq, bin_add, fr47, wrap_int, wrap_u8, iteP_yes, iteP_no] | refine iteP_two (fun hc hd => ?_) (fun hc hd => ?_) | refine iteP_intro (fun hc => ?_) (fun hc => ?_))
  refine loop_rounds (fun m e h' => ∃ i : Nat, m = n - i ∧ i ≤ n ∧ h' = h ∧ e 0 = x ∧ e 1 = .int .i64 (c + (i * 1 : Nat)) ∧ e 5 = .int .i64 i) _ ⟨0, rfl, ?_⟩ ?_
  · simp only [updO_at, updO_not, entry_at, List.getD_cons_zero, List.getD_cons_succ, ↓reduceIte, Nat.reduceEqDiff, true_and, and_true]
    exact ⟨by omega, by simp⟩
  · rintro m e h' ⟨i, hm, hle, rfl, g0, g1, g5⟩
    have hll := hI.1
    by_cases hin : i < n
    · have q0 := hM (i * 1) (by omega)
      (repeat' first | simp -dsimp (disch := first | omega | assumption | (refine OkS.sto ?_ (by omega); first | assumption | (refine OkS.sto ?_ (by omega); first | assumption | (refine OkS.sto ?_ (by omega); first | assumption | (refine OkS.sto ?_ (by omega); first | assumption | (refine OkS.sto ?_ (by omega); first | assumption | (refine OkS.sto ?_ (by omega); first | assumption)))))) | exact Pfx.refl _ | (apply Pfx.snoc; repeat (first | exact Pfx.refl _ | assumption | apply Pfx.snoc)) | with_unfolding_all exact of_eq_true (eq_true rfl) | (simp only [List.length_append, List.length_cons, List.length_nil]; omega)) only [↓wpre0, ↓wpre1, ↓reduceIte, Int.reduceToNat, Nat.reduceAdd, Nat.reduceMul, Nat.reduceEqDiff, wpost0, wpost1, wpost2, wpost3, wpost4, ite_self, ite_true, ite_false, if_true, if_false, xlen63, bin_lss, xiad63, xld2, bin_neq, bin_add, fr47, wrap_int, wrap_u8, iteP_yes, iteP_no, g0, g1, g5, hI.len Try.underlying63, IS.iad hI Try.underlying63 tsz2, IS.ld1 hI tsz2 tag2] | refine iteP_two (fun hc hd => ?_) (fun hc hd => ?_) | refine iteP_intro (fun hc => ?_) (fun hc => ?_))
      refine ⟨_, by omega, i + 1, rfl, by omega, ?_, by simp⟩
      congr 1; push_cast; omega
    · have : i = n := by omega
      subst this
      (repeat' first | simp -dsimp (disch := first | omega | assumption | (refine OkS.sto ?_ (by omega); first | assumption | (refine OkS.sto ?_ (by omega); first | assumption | (refine OkS.sto ?_ (by omega); first | assumption | (refine OkS.sto ?_ (by omega); first | assumption | (refine OkS.sto ?_ (by omega); first | assumption | (refine OkS.sto ?_ (by omega); first | assumption)))))) | exact Pfx.refl _ | (apply Pfx.snoc; repeat (first | exact Pfx.refl _ | assumption | apply Pfx.snoc)) | with_unfolding_all exact of_eq_true (eq_true rfl) | (simp only [List.length_append, List.length_cons, List.length_nil]; omega)) only [↓wpre0, ↓wpre1, ↓reduceIte, Int.reduceToNat, Nat.reduceAdd, Nat.reduceMul, Nat.reduceEqDiff, wpost0, wpost1, wpost2, wpost3, wpost4, ite_self, ite_true, ite_false, if_true, if_false, xlen63, bin_lss, xiad63, xld2, bin_neq, bin_add, fr47, wrap_int, wrap_u8, iteP_yes, iteP_no, g0, g1, g5, hI.len Try.underlying63] | refine iteP_two (fun hc hd => ?_) (fun hc hd => ?_) | refine iteP_intro (fun hc => ?_) (fun hc => ?_))

theorem eqBeamS_r (hX : XN X) {lo hi n lo' hi' n' : Nat} {l l' : List Int} {x y : Value} {h : Heap} (hI : IS lo hi 4 h x n l) (hJ : IS lo' hi' 4 h y n' l') (hn : n ≤ 1099511627776) (hn' : n' ≤ 1099511627776) (hro : ro ≤ h.length) : Ret Try.prog ro X 27 [x, y] h (.bool (decide (l = l'))) := by
  refine ret_of (callR_of (hX _ rfl) Try.func27 rfl (by kernel_rfl) (Nat.le_of_ble_eq_true rfl) ?_)
  (repeat' first | simp -dsimp (disch := first | omega | assumption | (refine OkS.sto ?_ (by omega); first | assumption | (refine OkS.sto ?_ (by omega); first | assumption | (refine OkS.sto ?_ (by omega); first | assumption | (refine OkS.sto ?_ (by omega); first | assumption | (refine OkS.sto ?_ (by omega); first | assumption | (refine OkS.sto ?_ (by omega); first | assumption)))))) | exact Pfx.refl _ | (apply Pfx.snoc; repeat (first | exact Pfx.refl _ | assumption | apply Pfx.snoc)) | with_unfolding_all exact of_eq_true (eq_true rfl) | (simp only [List.length_append, List.length_cons, List.length_nil]; omega)) only [↓wpre0, ↓wpre1, ↓reduceIte, Int.reduceToNat, Nat.reduceAdd, Nat.reduceMul, Nat.reduceEqDiff, wpost0, wpost1, wpost2, wpost3, wpost4, ite_self, ite_true, ite_false, if_true, if_false, xlen42, bin_neq, bin_lss, xiad42, xld98, un_not, bin_add, fr27, wrap_int, wrap_u8, iteP_yes, iteP_no, hI.len Try.underlying42, hJ.len Try.underlying42] | refine iteP_two (fun hc hd => ?_) (fun hc hd => ?_) | refine iteP_intro (fun hc => ?_) (fun hc => ?_))
  · rw [decide_eq_false (ne_of_len hI.1 hJ.1 (by omega))]
  refine loop_rounds (fun m e h' => ∃ i : Nat, m = n - i ∧ i ≤ n ∧ h' = h ∧ e 0 = x ∧ e 1 = y ∧ e 5 = .int .i64 i ∧ agr (i * 4) l l') _ ⟨0, rfl, ?_⟩ ?_
  · simp only [updO_at, updO_not, entry_at, List.getD_cons_zero, List.getD_cons_succ, ↓reduceIte, Nat.reduceEqDiff, true_and, and_true]
    refine ⟨by omega, rfl, ?_⟩
    rw [Nat.zero_mul]
    exact agr_zero _ _
  · rintro m e h' ⟨i, hm, hle, rfl, g0, g1, g5, hall⟩
    (repeat' first | simp -dsimp (disch := first | omega | assumption | (refine OkS.sto ?_ (by omega); first | assumption | (refine OkS.sto ?_ (by omega); first | assumption | (refine OkS.sto ?_ (by omega); first | assumption | (refine OkS.sto ?_ (by omega); first | assumption | (refine OkS.sto ?_ (by omega); first | assumption | (refine OkS.sto ?_ (by omega); first | assumption)))))) | exact Pfx.refl _ | (apply Pfx.snoc; repeat (first | exact Pfx.refl _ | assumption | apply Pfx.snoc)) | with_unfolding_all exact of_eq_true (eq_true rfl) | (simp only [List.length_append, List.length_cons, List.length_nil]; omega)) only [↓wpre0, ↓wpre1, ↓reduceIte, Int.reduceToNat, Nat.reduceAdd, Nat.reduceMul, Nat.reduceEqDiff, wpost0, wpost1, wpost2, wpost3, wpost4, ite_self, ite_true, ite_false, if_true, if_false, xlen42, bin_neq, bin_lss, xiad42, xld98, un_not, bin_add, fr27, wrap_int, wrap_u8, iteP_yes, iteP_no, g0, g1, g5, hI.len Try.underlying42, IS.iad hI Try.underlying42 tsz98, IS.ldm hI tsz98 tag98, IS.iad hJ Try.underlying42 tsz98, IS.ldm hJ tsz98 tag98, eqBeam_r hX] | refine iteP_two (fun hc hd => ?_) (fun hc hd => ?_) | refine iteP_intro (fun hc => ?_) (fun hc => ?_))
    all_goals first
      | (refine ⟨_, by omega, i + 1, rfl, by omega, rfl, ?_⟩
         rw [show (i + 1) * 4 = i * 4 + 4 by omega]
         exact (((hall.succ (by assumption)).succ (by assumption)).succ (by assumption)).succ (by assumption))
      | (rw [decide_eq_false (ne_of_nth (by assumption))]; done)
      | (have : i = n := by omega
         subst this
         rw [decide_eq_true (hall.all hI.1 (by rw [hJ.1]; omega))]; done)
      | skip

theorem markBeamS_c (hX : XN X) {lo hi n : Nat} {l : List Int} {x : Value} {h : Heap} {c : Int} (hI : IS lo hi 4 h x n l) (hn : n ≤ 1099511627776) (hro : ro ≤ lo) (hc0 : 0 ≤ c) (hc1 : c ≤ 1152921504606846976) : CallR Try.prog ro X 28 [x, .int .i64 c] h (fun r h' => r = .int .i64 (c + (n * 4 : Nat)) ∧ IS lo hi 4 h' x n (mrk c (n * 4) l) ∧ Rng lo hi h h') := by
  refine callR_of (hX _ rfl) Try.func28 rfl (by kernel_rfl) (Nat.le_of_ble_eq_true rfl) ?_
  (repeat' first | simp -dsimp (disch := first | omega | assumption | (refine OkS.sto ?_ (by omega); first | assumption | (refine OkS.sto ?_ (by omega); first | assumption | (refine OkS.sto ?_ (by omega); first | assumption | (refine OkS.sto ?_ (by omega); first | assumption | (refine OkS.sto ?_ (by omega); first | assumption | (refine OkS.sto ?_ (by omega); first | assumption)))))) | exact Pfx.refl _ | (apply Pfx.snoc; repeat (first | exact Pfx.refl _ | assumption | apply Pfx.snoc)) | with_unfolding_all exact of_eq_true (eq_true rfl) | (simp only [List.length_append, List.length_cons, List.length_nil]; omega)) only [↓wpre0, ↓wpre1, ↓reduceIte, Int.reduceToNat, Nat.reduceAdd, Nat.reduceMul, Nat.reduceEqDiff, wpost0, wpost1, wpost2, wpost3, wpost4, ite_self, ite_true, ite_false, if_true, if_false, xlen42, bin_lss, xiad42, xfad98_0, xfad96_0, xst2, bin_add, xfad96_1, xfad98_1, xfad98_2, fr28, wrap_int, wrap_u8, iteP_yes, iteP_no] | refine iteP_two (fun hc hd => ?_) (fun hc hd => ?_) | refine iteP_intro (fun hc => ?_) (fun hc => ?_))
  refine loop_rounds (fun m e h' => ∃ i : Nat, m = n - i ∧ i ≤ n ∧ IS lo hi 4 h' x n (mrk c (i * 4) l) ∧ Rng lo hi h h' ∧ e 0 = x ∧ e 1 = .int .i64 (c + (i * 4 : Nat)) ∧ e 5 = .int .i64 i) _ ⟨0, rfl, ?_⟩ ?_
  · simp only [updO_at, updO_not, entry_at, List.getD_cons_zero, List.getD_cons_succ, ↓reduceIte, Nat.reduceEqDiff, true_and, and_true]
    refine ⟨by omega, ?_, .refl _ _ _, ?_, rfl⟩
    · rw [Nat.zero_mul, mrk_zero]; exact hI
    · simp
  · rintro m e h' ⟨i, hm, hle, hI', ho, g0, g1, g5⟩
    have hok := hI'.ok
    have hlen := ho.1
    have hll := hI.1
    (repeat' first | simp -dsimp (disch := first | omega | assumption | (refine OkS.sto ?_ (by omega); first | assumption | (refine OkS.sto ?_ (by omega); first | assumption | (refine OkS.sto ?_ (by omega); first | assumption | (refine OkS.sto ?_ (by omega); first | assumption | (refine OkS.sto ?_ (by omega); first | assumption | (refine OkS.sto ?_ (by omega); first | assumption)))))) | exact Pfx.refl _ | (apply Pfx.snoc; repeat (first | exact Pfx.refl _ | assumption | apply Pfx.snoc)) | with_unfolding_all exact of_eq_true (eq_true rfl) | (simp only [List.length_append, List.length_cons, List.length_nil]; omega)) only [↓wpre0, ↓wpre1, ↓reduceIte, Int.reduceToNat, Nat.reduceAdd, Nat.reduceMul, Nat.reduceEqDiff, wpost0, wpost1, wpost2, wpost3, wpost4, ite_self, ite_true, ite_false, if_true, if_false, xlen42, bin_lss, xiad42, xfad98_0, xfad96_0, xst2, bin_add, xfad96_1, xfad98_1, xfad98_2, fr28, wrap_int, wrap_u8, iteP_yes, iteP_no, g0, g1, g5, hI'.len Try.underlying42, IS.iad hI' Try.underlying42 tsz98, stv_sto (lo := lo) (hi := hi) (k := 4) (n := n) (x := x) tsz2 hro, IS.fad hI' tfi98_0 (by decide), IS.fad hI' tfi98_1 (by decide), IS.fad hI' tfi98_2 (by decide), IS.fad hI' tfi96_0 (by decide), IS.fad hI' tfi96_1 (by decide), endH_len hlen] | refine iteP_two (fun hc hd => ?_) (fun hc hd => ?_) | refine iteP_intro (fun hc => ?_) (fun hc => ?_))
    · refine ⟨_, by omega, i + 1, rfl, by omega, ?_, ?_, ?_, by simp⟩
      · rw [show (i + 1) * 4 = i * 4 + 4 by omega]
        have s0 := hI'
        have s1 := s0.sto (c := i * 4) (by omega) (c + (i * 4 : Nat))
        rw [mrk_set (by omega) (by push_cast; omega)] at s1
        have s2 := s1.sto (c := i * 4 + 1) (by omega) (c + (i * 4 : Nat) + 1)
        rw [mrk_set (by omega) (by push_cast; omega)] at s2
        have s3 := s2.sto (c := i * 4 + 2) (by omega) (c + (i * 4 : Nat) + 1 + 1)
        rw [mrk_set (by omega) (by push_cast; omega)] at s3
        have s4 := s3.sto (c := i * 4 + 3) (by omega) (c + (i * 4 : Nat) + 1 + 1 + 1)
        rw [mrk_set (by omega) (by push_cast; omega)] at s4
        exact s4
      · exact ho.trans (((((only_sto _ _ _ _).trans (only_sto _ _ _ _)).trans (only_sto _ _ _ _)).trans (only_sto _ _ _ _)).rng (hI'.bof (by omega)).1 (hI'.bof (by omega)).2.1)
      · congr 1; push_cast; omega
    · have : i = n := by omega
      subst this
      exact ⟨rfl, hI', ho⟩

theorem eqSlotS_r (hX : XN X) {lo hi n lo' hi' n' : Nat} {l l' : List Int} {x y : Value} {h : Heap} (hI : IS lo hi 2 h x n l) (hJ : IS lo' hi' 2 h y n' l') (hn : n ≤ 1099511627776) (hn' : n' ≤ 1099511627776) (hro : ro ≤ h.length) : Ret Try.prog ro X 38 [x, y] h (.bool (decide (l = l'))) := by
  refine ret_of (callR_of (hX _ rfl) Try.func38 rfl (by kernel_rfl) (Nat.le_of_ble_eq_true rfl) ?_)
  (repeat' first | simp -dsimp (disch := first | omega | assumption | (refine OkS.sto ?_ (by omega); first | assumption | (refine OkS.sto ?_ (by omega); first | assumption | (refine OkS.sto ?_ (by omega); first | assumption | (refine OkS.sto ?_ (by omega); first | assumption | (refine OkS.sto ?_ (by omega); first | assumption | (refine OkS.sto ?_ (by omega); first | assumption)))))) | exact Pfx.refl _ | (apply Pfx.snoc; repeat (first | exact Pfx.refl _ | assumption | apply Pfx.snoc)) | with_unfolding_all exact of_eq_true (eq_true rfl) | (simp only [List.length_append, List.length_cons, List.length_nil]; omega)) only [↓wpre0, ↓wpre1, ↓reduceIte, Int.reduceToNat, Nat.reduceAdd, Nat.reduceMul, Nat.reduceEqDiff, wpost0, wpost1, wpost2, wpost3, wpost4, ite_self, ite_true, ite_false, if_true, if_false, xlen56, bin_neq, bin_lss, xiad56, xld115, un_not, bin_add, fr38, wrap_int, wrap_u8, iteP_yes, iteP_no, hI.len Try.underlying56, hJ.len Try.underlying56] | refine iteP_two (fun hc hd => ?_) (fun hc hd => ?_) | refine iteP_intro (fun hc => ?_) (fun hc => ?_))
  · rw [decide_eq_false (ne_of_len hI.1 hJ.1 (by omega))]
  refine loop_rounds (fun m e h' => ∃ i : Nat, m = n - i ∧ i ≤ n ∧ h' = h ∧ e 0 = x ∧ e 1 = y ∧ e 5 = .int .i64 i ∧ agr (i * 2) l l') _ ⟨0, rfl, ?_⟩ ?_
  · simp only [updO_at, updO_not, entry_at, List.getD_cons_zero, List.getD_cons_succ, ↓reduceIte, Nat.reduceEqDiff, true_and, and_true]
    refine ⟨by omega, rfl, ?_⟩
    rw [Nat.zero_mul]
    exact agr_zero _ _
  · rintro m e h' ⟨i, hm, hle, rfl, g0, g1, g5, hall⟩
    (repeat' first | simp -dsimp (disch := first | omega | assumption | (refine OkS.sto ?_ (by omega); first | assumption | (refine OkS.sto ?_ (by omega); first | assumption | (refine OkS.sto ?_ (by omega); first | assumption | (refine OkS.sto ?_ (by omega); first | assumption | (refine OkS.sto ?_ (by omega); first | assumption | (refine OkS.sto ?_ (by omega); first | assumption)))))) | exact Pfx.refl _ | (apply Pfx.snoc; repeat (first | exact Pfx.refl _ | assumption | apply Pfx.snoc)) | with_unfolding_all exact of_eq_true (eq_true rfl) | (simp only [List.length_append, List.length_cons, List.length_nil]; omega)) only [↓wpre0, ↓wpre1, ↓reduceIte, Int.reduceToNat, Nat.reduceAdd, Nat.reduceMul, Nat.reduceEqDiff, wpost0, wpost1, wpost2, wpost3, wpost4, ite_self, ite_true, ite_false, if_true, if_false, xlen56, bin_neq, bin_lss, xiad56, xld115, un_not, bin_add, fr38, wrap_int, wrap_u8, iteP_yes, iteP_no, g0, g1, g5, hI.len Try.underlying56, IS.iad hI Try.underlying56 tsz115, IS.ldm hI tsz115 tag115, IS.iad hJ Try.underlying56 tsz115, IS.ldm hJ tsz115 tag115, eqSlot_r hX] | refine iteP_two (fun hc hd => ?_) (fun hc hd => ?_) | refine iteP_intro (fun hc => ?_) (fun hc => ?_))
    all_goals first
      | (refine ⟨_, by omega, i + 1, rfl, by omega, rfl, ?_⟩
         rw [show (i + 1) * 2 = i * 2 + 2 by omega]
         exact (hall.succ (by assumption)).succ (by assumption))
      | (rw [decide_eq_false (ne_of_nth (by assumption))]; done)
      | (have : i = n := by omega
         subst this
         rw [decide_eq_true (hall.all hI.1 (by rw [hJ.1]; omega))]; done)
      | skip

theorem markSlotS_c (hX : XN X) {lo hi n : Nat} {l : List Int} {x : Value} {h : Heap} {c : Int} (hI : IS lo hi 2 h x n l) (hn : n ≤ 1099511627776) (hro : ro ≤ lo) (hc0 : 0 ≤ c) (hc1 : c ≤ 1152921504606846976) : CallR Try.prog ro X 39 [x, .int .i64 c] h (fun r h' => r = .int .i64 (c + (n * 2 : Nat)) ∧ IS lo hi 2 h' x n (mrk c (n * 2) l) ∧ Rng lo hi h h') := by
  refine callR_of (hX _ rfl) Try.func39 rfl (by kernel_rfl) (Nat.le_of_ble_eq_true rfl) ?_
  (repeat' first | simp -dsimp (disch := first | omega | assumption | (refine OkS.sto ?_ (by omega); first | assumption | (refine OkS.sto ?_ (by omega); first | assumption | (refine OkS.sto ?_ (by omega); first | assumption | (refine OkS.sto ?_ (by omega); first | assumption | (refine OkS.sto ?_ (by omega); first | assumption | (refine OkS.sto ?_ (by omega); first | assumption)))))) | exact Pfx.refl _ | (apply Pfx.snoc; repeat (first | exact Pfx.refl _ | assumption | apply Pfx.snoc)) | with_unfolding_all exact of_eq_true (eq_true rfl) | (simp only [List.length_append, List.length_cons, List.length_nil]; omega)) only [↓wpre0, ↓wpre1, ↓reduceIte, Int.reduceToNat, Nat.reduceAdd, Nat.reduceMul, Nat.reduceEqDiff, wpost0, wpost1, wpost2, wpost3, wpost4, ite_self, ite_true, ite_false, if_true, if_false, xlen56, bin_lss, xiad56, xfad115_0, xst2, bin_add, xfad115_1, fr39, wrap_int, wrap_u8, iteP_yes, iteP_no] | refine iteP_two (fun hc hd => ?_) (fun hc hd => ?_) | refine iteP_intro (fun hc => ?_) (fun hc => ?_))
  refine loop_rounds (fun m e h' => ∃ i : Nat, m = n - i ∧ i ≤ n ∧ IS lo hi 2 h' x n (mrk c (i * 2) l) ∧ Rng lo hi h h' ∧ e 0 = x ∧ e 1 = .int .i64 (c + (i * 2 : Nat)) ∧ e 5 = .int .i64 i) _ ⟨0, rfl, ?_⟩ ?_
  · simp only [updO_at, updO_not, entry_at, List.getD_cons_zero, List.getD_cons_succ, ↓reduceIte, Nat.reduceEqDiff, true_and, and_true]
    refine ⟨by omega, ?_, .refl _ _ _, ?_, rfl⟩
    · rw [Nat.zero_mul, mrk_zero]; exact hI
    · simp
  · rintro m e h' ⟨i, hm, hle, hI', ho, g0, g1, g5⟩
    have hok := hI'.ok
    have hlen := ho.1
    have hll := hI.1
    (repeat' first | simp -dsimp (disch := first | omega | assumption | (refine OkS.sto ?_ (by omega); first | assumption | (refine OkS.sto ?_ (by omega); first | assumption | (refine OkS.sto ?_ (by omega); first | assumption | (refine OkS.sto ?_ (by omega); first | assumption | (refine OkS.sto ?_ (by omega); first | assumption | (refine OkS.sto ?_ (by omega); first | assumption)))))) | exact Pfx.refl _ | (apply Pfx.snoc; repeat (first | exact Pfx.refl _ | assumption | apply Pfx.snoc)) | with_unfolding_all exact of_eq_true (eq_true rfl) | (simp only [List.length_append, List.length_cons, List.length_nil]; omega)) only [↓wpre0, ↓wpre1, ↓reduceIte, Int.reduceToNat, Nat.reduceAdd, Nat.reduceMul, Nat.reduceEqDiff, wpost0, wpost1, wpost2, wpost3, wpost4, ite_self, ite_true, ite_false, if_true, if_false, xlen56, bin_lss, xiad56, xfad115_0, xst2, bin_add, xfad115_1, fr39, wrap_int, wrap_u8, iteP_yes, iteP_no, g0, g1, g5, hI'.len Try.underlying56, IS.iad hI' Try.underlying56 tsz115, stv_sto (lo := lo) (hi := hi) (k := 2) (n := n) (x := x) tsz2 hro, IS.fad hI' tfi115_0 (by decide), IS.fad hI' tfi115_1 (by decide), endH_len hlen] | refine iteP_two (fun hc hd => ?_) (fun hc hd => ?_) | refine iteP_intro (fun hc => ?_) (fun hc => ?_))
    · refine ⟨_, by omega, i + 1, rfl, by omega, ?_, ?_, ?_, by simp⟩
      · rw [show (i + 1) * 2 = i * 2 + 2 by omega]
        have s0 := hI'
        have s1 := s0.sto (c := i * 2) (by omega) (c + (i * 2 : Nat))
        rw [mrk_set (by omega) (by push_cast; omega)] at s1
        have s2 := s1.sto (c := i * 2 + 1) (by omega) (c + (i * 2 : Nat) + 1)
        rw [mrk_set (by omega) (by push_cast; omega)] at s2
        exact s2
      · exact ho.trans (((only_sto _ _ _ _).trans (only_sto _ _ _ _)).rng (hI'.bof (by omega)).1 (hI'.bof (by omega)).2.1)
      · congr 1; push_cast; omega
    · have : i = n := by omega
      subst this
      exact ⟨rfl, hI', ho⟩

theorem heldSlotS_r (hX : XN X) {lo hi n : Nat} {l : List Int} {x : Value} {h : Heap} {c : Int} (hI : IS lo hi 2 h x n l) (hM : Mrkd c l) (hn : n ≤ 1099511627776) (hc0 : 0 ≤ c) (hc1 : c ≤ 1152921504606846976) : Ret Try.prog ro X 40 [x, .int .i64 c] h (.int .i64 (c + (n * 2 : Nat))) := by
  refine ret_of (callR_of (hX _ rfl) Try.func40 rfl (by kernel_rfl) (Nat.le_of_ble_eq_true rfl) ?_)
  (repeat' first | simp -dsimp (disch := first | omega | assumption | (refine OkS.sto ?_ (by omega); first | assumption | (refine OkS.sto ?_ (by omega); first | assumption | (refine OkS.sto ?_ (by omega); first | assumption | (refine OkS.sto ?_ (by omega); first | assumption | (refine OkS.sto ?_ (by omega); first | assumption | (refine OkS.sto ?_ (by omega); first | assumption)))))) | exact Pfx.refl _ | (apply Pfx.snoc; repeat (first | exact Pfx.refl _ | assumption | apply Pfx.snoc)) | with_unfolding_all exact of_eq_true (eq_true rfl) | (simp only [List.length_append, List.length_cons, List.length_nil]; omega)) only [↓wpre0, ↓wpre1, ↓reduceIte, Int.reduceToNat, Nat.reduceAdd, Nat.reduceMul, Nat.reduceEqDiff, wpost0, wpost1, wpost2, wpost3, wpost4, ite_self, ite_true, ite_false, if_true, if_false, xlen56, bin_lss, xiad56, xfad115_0, xld2, bin_neq, bin_add, xfad115_1, fr40, wrap_int, wrap_u8, iteP_yes, iteP_no] | refine iteP_two (fun hc hd => ?_) (fun hc hd => ?_) | refine iteP_intro (fun hc => ?_) (fun hc => ?_))
  refine loop_rounds (fun m e h' => ∃ i : Nat, m = n - i ∧ i ≤ n ∧ h' = h ∧ e 0 = x ∧ e 1 = .int .i64 (c + (i * 2 : Nat)) ∧ e 5 = .int .i64 i) _ ⟨0, rfl, ?_⟩ ?_
  · simp only [updO_at, updO_not, entry_at, List.getD_cons_zero, List.getD_cons_succ, ↓reduceIte, Nat.reduceEqDiff, true_and, and_true]
    exact ⟨by omega, by simp⟩
  · rintro m e h' ⟨i, hm, hle, rfl, g0, g1, g5⟩
    have hll := hI.1
    by_cases hin : i < n
    · have q0 := hM (i * 2) (by omega)
      have q1 := hM (i * 2 + 1) (by omega)
      (repeat' first | simp -dsimp (disch := first | omega | assumption | (refine OkS.sto ?_ (by omega); first | assumption | (refine OkS.sto ?_ (by omega); first | assumption | (refine OkS.sto ?_ (by omega); first | assumption | (refine OkS.sto ?_ (by omega); first | assumption | (refine OkS.sto ?_ (by omega); first | assumption | (refine OkS.sto ?_ (by omega); first | assumption)))))) | exact Pfx.refl _ | (apply Pfx.snoc; repeat (first | exact Pfx.refl _ | assumption | apply Pfx.snoc)) | with_unfolding_all exact of_eq_true (eq_true rfl) | (simp only [List.length_append, List.length_cons, List.length_nil]; omega)) only [↓wpre0, ↓wpre1, ↓reduceIte, Int.reduceToNat, Nat.reduceAdd, Nat.reduceMul, Nat.reduceEqDiff, wpost0, wpost1, wpost2, wpost3, wpost4, ite_self, ite_true, ite_false, if_true, if_false, xlen56, bin_lss, xiad56, xfad115_0, xld2, bin_neq, bin_add, xfad115_1, fr40, wrap_int, wrap_u8, iteP_yes, iteP_no, g0, g1, g5, hI.len Try.underlying56, IS.iad hI Try.underlying56 tsz115, IS.ld1 hI tsz2 tag2, IS.fad hI tfi115_0 (by decide), IS.fad hI tfi115_1 (by decide)] | refine iteP_two (fun hc hd => ?_) (fun hc hd => ?_) | refine iteP_intro (fun hc => ?_) (fun hc => ?_))
      refine ⟨_, by omega, i + 1, rfl, by omega, ?_, by simp⟩
      congr 1; push_cast; omega
    · have : i = n := by omega
      subst this
      (repeat' first | simp -dsimp (disch := first | omega | assumption | (refine OkS.sto ?_ (by omega); first | assumption | (refine OkS.sto ?_ (by omega); first | assumption | (refine OkS.sto ?_ (by omega); first | assumption | (refine OkS.sto ?_ (by omega); first | assumption | (refine OkS.sto ?_ (by omega); first | assumption | (refine OkS.sto ?_ (by omega); first | assumption)))))) | exact Pfx.refl _ | (apply Pfx.snoc; repeat (first | exact Pfx.refl _ | assumption | apply Pfx.snoc)) | with_unfolding_all exact of_eq_true (eq_true rfl) | (simp only [List.length_append, List.length_cons, List.length_nil]; omega)) only [↓wpre0, ↓wpre1, ↓reduceIte, Int.reduceToNat, Nat.reduceAdd, Nat.reduceMul, Nat.reduceEqDiff, wpost0, wpost1, wpost2, wpost3, wpost4, ite_self, ite_true, ite_false, if_true, if_false, xlen56, bin_lss, xiad56, xfad115_0, xld2, bin_neq, bin_add, xfad115_1, fr40, wrap_int, wrap_u8, iteP_yes, iteP_no, g0, g1, g5, hI.len Try.underlying56] | refine iteP_two (fun hc hd => ?_) (fun hc hd => ?_) | refine iteP_intro (fun hc => ?_) (fun hc => ?_))

theorem eqPlaceS_r (hX : XN X) {lo hi n lo' hi' n' : Nat} {l l' : List Int} {x y : Value} {h : Heap} (hI : IS lo hi 2 h x n l) (hJ : IS lo' hi' 2 h y n' l') (hn : n ≤ 1099511627776) (hn' : n' ≤ 1099511627776) (hro : ro ≤ h.length) : Ret Try.prog ro X 63 [x, y] h (.bool (decide (l = l'))) := by
  refine ret_of (callR_of (hX _ rfl) Try.func63 rfl (by kernel_rfl) (Nat.le_of_ble_eq_true rfl) ?_)
  (repeat' first | simp -dsimp (disch := first | omega | assumption | (refine OkS.sto ?_ (by omega); first | assumption | (refine OkS.sto ?_ (by omega); first | assumption | (refine OkS.sto ?_ (by omega); first | assumption | (refine OkS.sto ?_ (by omega); first | assumption | (refine OkS.sto ?_ (by omega); first | assumption | (refine OkS.sto ?_ (by omega); first | assumption)))))) | exact Pfx.refl _ | (apply Pfx.snoc; repeat (first | exact Pfx.refl _ | assumption | apply Pfx.snoc)) | with_unfolding_all exact of_eq_true (eq_true rfl) | (simp only [List.length_append, List.length_cons, List.length_nil]; omega)) only [↓wpre0, ↓wpre1, ↓reduceIte, Int.reduceToNat, Nat.reduceAdd, Nat.reduceMul, Nat.reduceEqDiff, wpost0, wpost1, wpost2, wpost3, wpost4, ite_self, ite_true, ite_false, if_true, if_false, xlen28, bin_neq, bin_lss, xiad28, xld85, un_not, bin_add, fr63, wrap_int, wrap_u8, iteP_yes, iteP_no, hI.len Try.underlying28, hJ.len Try.underlying28] | refine iteP_two (fun hc hd => ?_) (fun hc hd => ?_) | refine iteP_intro (fun hc => ?_) (fun hc => ?_))
  · rw [decide_eq_false (ne_of_len hI.1 hJ.1 (by omega))]
  refine loop_rounds (fun m e h' => ∃ i : Nat, m = n - i ∧ i ≤ n ∧ h' = h ∧ e 0 = x ∧ e 1 = y ∧ e 5 = .int .i64 i ∧ agr (i * 2) l l') _ ⟨0, rfl, ?_⟩ ?_
  · simp only [updO_at, updO_not, entry_at, List.getD_cons_zero, List.getD_cons_succ, ↓reduceIte, Nat.reduceEqDiff, true_and, and_true]
    refine ⟨by omega, rfl, ?_⟩
    rw [Nat.zero_mul]
    exact agr_zero _ _
  · rintro m e h' ⟨i, hm, hle, rfl, g0, g1, g5, hall⟩
    (repeat' first | simp -dsimp (disch := first | omega | assumption | (refine OkS.sto ?_ (by omega); first | assumption | (refine OkS.sto ?_ (by omega); first | assumption | (refine OkS.sto ?_ (by omega); first | assumption | (refine OkS.sto ?_ (by omega); first | assumption | (refine OkS.sto ?_ (by omega); first | assumption | (refine OkS.sto ?_ (by omega); first | assumption)))))) | exact Pfx.refl _ | (apply Pfx.snoc; repeat (first | exact Pfx.refl _ | assumption | apply Pfx.snoc)) | with_unfolding_all exact of_eq_true (eq_true rfl) | (simp only [List.length_append, List.length_cons, List.length_nil]; omega)) only [↓wpre0, ↓wpre1, ↓reduceIte, Int.reduceToNat, Nat.reduceAdd, Nat.reduceMul, Nat.reduceEqDiff, wpost0, wpost1, wpost2, wpost3, wpost4, ite_self, ite_true, ite_false, if_true, if_false, xlen28, bin_neq, bin_lss, xiad28, xld85, un_not, bin_add, fr63, wrap_int, wrap_u8, iteP_yes, iteP_no, g0, g1, g5, hI.len Try.underlying28, IS.iad hI Try.underlying28 tsz85, IS.ldm hI tsz85 tag85, IS.iad hJ Try.underlying28 tsz85, IS.ldm hJ tsz85 tag85, eqPlace_r hX] | refine iteP_two (fun hc hd => ?_) (fun hc hd => ?_) | refine iteP_intro (fun hc => ?_) (fun hc => ?_))
    all_goals first
      | (refine ⟨_, by omega, i + 1, rfl, by omega, rfl, ?_⟩
         rw [show (i + 1) * 2 = i * 2 + 2 by omega]
         exact (hall.succ (by assumption)).succ (by assumption))
      | (rw [decide_eq_false (ne_of_nth (by assumption))]; done)
      | (have : i = n := by omega
         subst this
         rw [decide_eq_true (hall.all hI.1 (by rw [hJ.1]; omega))]; done)
      | skip

theorem markPlaceS_c (hX : XN X) {lo hi n : Nat} {l : List Int} {x : Value} {h : Heap} {c : Int} (hI : IS lo hi 2 h x n l) (hn : n ≤ 1099511627776) (hro : ro ≤ lo) (hc0 : 0 ≤ c) (hc1 : c ≤ 1152921504606846976) : CallR Try.prog ro X 66 [x, .int .i64 c] h (fun r h' => r = .int .i64 (c + (n * 2 : Nat)) ∧ IS lo hi 2 h' x n (mrk c (n * 2) l) ∧ Rng lo hi h h') := by
  refine callR_of (hX _ rfl) Try.func66 rfl (by kernel_rfl) (Nat.le_of_ble_eq_true rfl) ?_
  (repeat' first | simp -dsimp (disch := first | omega | assumption | (refine OkS.sto ?_ (by omega); first | assumption | (refine OkS.sto ?_ (by omega); first | assumption | (refine OkS.sto ?_ (by omega); first | assumption | (refine OkS.sto ?_ (by omega); first | assumption | (refine OkS.sto ?_ (by omega); first | assumption | (refine OkS.sto ?_ (by omega); first | assumption)))))) | exact Pfx.refl _ | (apply Pfx.snoc; repeat (first | exact Pfx.refl _ | assumption | apply Pfx.snoc)) | with_unfolding_all exact of_eq_true (eq_true rfl) | (simp only [List.length_append, List.length_cons, List.length_nil]; omega)) only [↓wpre0, ↓wpre1, ↓reduceIte, Int.reduceToNat, Nat.reduceAdd, Nat.reduceMul, Nat.reduceEqDiff, wpost0, wpost1, wpost2, wpost3, wpost4, ite_self, ite_true, ite_false, if_true, if_false, xlen28, bin_lss, xiad28, xfad85_0, xst2, bin_add, xfad85_1, fr66, wrap_int, wrap_u8, iteP_yes, iteP_no] | refine iteP_two (fun hc hd => ?_) (fun hc hd => ?_) | refine iteP_intro (fun hc => ?_) (fun hc => ?_))
  refine loop_rounds (fun m e h' => ∃ i : Nat, m = n - i ∧ i ≤ n ∧ IS lo hi 2 h' x n (mrk c (i * 2) l) ∧ Rng lo hi h h' ∧ e 0 = x ∧ e 1 = .int .i64 (c + (i * 2 : Nat)) ∧ e 5 = .int .i64 i) _ ⟨0, rfl, ?_⟩ ?_
  · simp only [updO_at, updO_not, entry_at, List.getD_cons_zero, List.getD_cons_succ, ↓reduceIte, Nat.reduceEqDiff, true_and, and_true]
    refine ⟨by omega, ?_, .refl _ _ _, ?_, rfl⟩
    · rw [Nat.zero_mul, mrk_zero]; exact hI
    · simp
  · rintro m e h' ⟨i, hm, hle, hI', ho, g0, g1, g5⟩
    have hok := hI'.ok
    have hlen := ho.1
    have hll := hI.1
    (repeat' first | simp -dsimp (disch := first | omega | assumption | (refine OkS.sto ?_ (by omega); first | assumption | (refine OkS.sto ?_ (by omega); first | assumption | (refine OkS.sto ?_ (by omega); first | assumption | (refine OkS.sto ?_ (by omega); first | assumption | (refine OkS.sto ?_ (by omega); first | assumption | (refine OkS.sto ?_ (by omega); first | assumption)))))) | exact Pfx.refl _ | (apply Pfx.snoc; repeat (first | exact Pfx.refl _ | assumption | apply Pfx.snoc)) | with_unfolding_all exact of_eq_true (eq_true rfl) | (simp only [List.length_append, List.length_cons, List.length_nil]; omega)) only [↓wpre0, ↓wpre1, ↓reduceIte, Int.reduceToNat, Nat.reduceAdd, Nat.reduceMul, Nat.reduceEqDiff, wpost0, wpost1, wpost2, wpost3, wpost4, ite_self, ite_true, ite_false, if_true, if_false, xlen28, bin_lss, xiad28, xfad85_0, xst2, bin_add, xfad85_1, fr66, wrap_int, wrap_u8, iteP_yes, iteP_no, g0, g1, g5, hI'.len Try.underlying28, IS.iad hI' Try.underlying28 tsz85, stv_sto (lo := lo) (hi := hi) (k := 2) (n := n) (x := x) tsz2 hro, IS.fad hI' tfi85_0 (by decide), IS.fad hI' tfi85_1 (by decide), endH_len hlen] | refine iteP_two (fun hc hd => ?_) (fun hc hd => ?_) | refine iteP_intro (fun hc => ?_) (fun hc => ?_))
    · refine ⟨_, by omega, i + 1, rfl, by omega, ?_, ?_, ?_, by simp⟩
      · rw [show (i + 1) * 2 = i * 2 + 2 by omega]
        have s0 := hI'
        have s1 := s0.sto (c := i * 2) (by omega) (c + (i * 2 : Nat))
        rw [mrk_set (by omega) (by push_cast; omega)] at s1
        have s2 := s1.sto (c := i * 2 + 1) (by omega) (c + (i * 2 : Nat) + 1)
        rw [mrk_set (by omega) (by push_cast; omega)] at s2
        exact s2
      · exact ho.trans (((only_sto _ _ _ _).trans (only_sto _ _ _ _)).rng (hI'.bof (by omega)).1 (hI'.bof (by omega)).2.1)
      · congr 1; push_cast; omega
    · have : i = n := by omega
      subst this
      exact ⟨rfl, hI', ho⟩

theorem heldPlaceS_r (hX : XN X) {lo hi n : Nat} {l : List Int} {x : Value} {h : Heap} {c : Int} (hI : IS lo hi 2 h x n l) (hM : Mrkd c l) (hn : n ≤ 1099511627776) (hc0 : 0 ≤ c) (hc1 : c ≤ 1152921504606846976) : Ret Try.prog ro X 69 [x, .int .i64 c] h (.int .i64 (c + (n * 2 : Nat))) := by
  refine ret_of (callR_of (hX _ rfl) Try.func69 rfl (by kernel_rfl) (Nat.le_of_ble_eq_true rfl) ?_)
  (repeat' first | simp -dsimp (disch := first | omega | assumption | (refine OkS.sto ?_ (by omega); first | assumption | (refine OkS.sto ?_ (by omega); first | assumption | (refine OkS.sto ?_ (by omega); first | assumption | (refine OkS.sto ?_ (by omega); first | assumption | (refine OkS.sto ?_ (by omega); first | assumption | (refine OkS.sto ?_ (by omega); first | assumption)))))) | exact Pfx.refl _ | (apply Pfx.snoc; repeat (first | exact Pfx.refl _ | assumption | apply Pfx.snoc)) | with_unfolding_all exact of_eq_true (eq_true rfl) | (simp only [List.length_append, List.length_cons, List.length_nil]; omega)) only [↓wpre0, ↓wpre1, ↓reduceIte, Int.reduceToNat, Nat.reduceAdd, Nat.reduceMul, Nat.reduceEqDiff, wpost0, wpost1, wpost2, wpost3, wpost4, ite_self, ite_true, ite_false, if_true, if_false, xlen28, bin_lss, xiad28, xfad85_0, xld2, bin_neq, bin_add, xfad85_1, fr69, wrap_int, wrap_u8, iteP_yes, iteP_no] | refine iteP_two (fun hc hd => ?_) (fun hc hd => ?_) | refine iteP_intro (fun hc => ?_) (fun hc => ?_))
  refine loop_rounds (fun m e h' => ∃ i : Nat, m = n - i ∧ i ≤ n ∧ h' = h ∧ e 0 = x ∧ e 1 = .int .i64 (c + (i * 2 : Nat)) ∧ e 5 = .int .i64 i) _ ⟨0, rfl, ?_⟩ ?_
  · simp only [updO_at, updO_not, entry_at, List.getD_cons_zero, List.getD_cons_succ, ↓reduceIte, Nat.reduceEqDiff, true_and, and_true]
    exact ⟨by omega, by simp⟩
  · rintro m e h' ⟨i, hm, hle, rfl, g0, g1, g5⟩
    have hll := hI.1
    by_cases hin : i < n
    · have q0 := hM (i * 2) (by omega)
      have q1 := hM (i * 2 + 1) (by omega)
      (repeat' first | simp -dsimp (disch := first | omega | assumption | (refine OkS.sto ?_ (by omega); first | assumption | (refine OkS.sto ?_ (by omega); first | assumption | (refine OkS.sto ?_ (by omega); first | assumption | (refine OkS.sto ?_ (by omega); first | assumption | (refine OkS.sto ?_ (by omega); first | assumption | (refine OkS.sto ?_ (by omega); first | assumption)))))) | exact Pfx.refl _ | (apply Pfx.snoc; repeat (first | exact Pfx.refl _ | assumption | apply Pfx.snoc)) | with_unfolding_all exact of_eq_true (eq_true rfl) | (simp only [List.length_append, List.length_cons, List.length_nil]; omega)) only [↓wpre0, ↓wpre1, ↓reduceIte, Int.reduceToNat, Nat.reduceAdd, Nat.reduceMul, Nat.reduceEqDiff, wpost0, wpost1, wpost2, wpost3, wpost4, ite_self, ite_true, ite_false, if_true, if_false, xlen28, bin_lss, xiad28, xfad85_0, xld2, bin_neq, bin_add, xfad85_1, fr69, wrap_int, wrap_u8, iteP_yes, iteP_no, g0, g1, g5, hI.len Try.underlying28, IS.iad hI Try.underlying28 tsz85, IS.ld1 hI tsz2 tag2, IS.fad hI tfi85_0 (by decide), IS.fad hI tfi85_1 (by decide)] | refine iteP_two (fun hc hd => ?_) (fun hc hd => ?_) | refine iteP_intro (fun hc => ?_) (fun hc => ?_))
      refine ⟨_, by omega, i + 1, rfl, by omega, ?_, by simp⟩
      congr 1; push_cast; omega
    · have : i = n := by omega
      subst this
      (repeat' first | simp -dsimp (disch := first | omega | assumption | (refine OkS.sto ?_ (by omega); first | assumption | (refine OkS.sto ?_ (by omega); first | assumption | (refine OkS.sto ?_ (by omega); first | assumption | (refine OkS.sto ?_ (by omega); first | assumption | (refine OkS.sto ?_ (by omega); first | assumption | (refine OkS.sto ?_ (by omega); first | assumption)))))) | exact Pfx.refl _ | (apply Pfx.snoc; repeat (first | exact Pfx.refl _ | assumption | apply Pfx.snoc)) | with_unfolding_all exact of_eq_true (eq_true rfl) | (simp only [List.length_append, List.length_cons, List.length_nil]; omega)) only [↓wpre0, ↓wpre1, ↓reduceIte, Int.reduceToNat, Nat.reduceAdd, Nat.reduceMul, Nat.reduceEqDiff, wpost0, wpost1, wpost2, wpost3, wpost4, ite_self, ite_true, ite_false, if_true, if_false, xlen28, bin_lss, xiad28, xfad85_0, xld2, bin_neq, bin_add, xfad85_1, fr69, wrap_int, wrap_u8, iteP_yes, iteP_no, g0, g1, g5, hI.len Try.underlying28] | refine iteP_two (fun hc hd => ?_) (fun hc hd => ?_) | refine iteP_intro (fun hc => ?_) (fun hc => ?_))

end Go.Proofs.Ytbakaopgdcojfaa.Sim
