/- Plans of beams: what the functions that compare directions come to. Lemmas only; no condition. -/
import Derived.Test.YtbakaopgdcojfaaSimU
import Derived.Test.YtbakaopgdcojfaaFba
set_option linter.unusedSimpArgs false
set_option linter.unusedVariables false
namespace Go.Proofs.Ytbakaopgdcojfaa.Sim
open Go Go.RowKit
variable {ro : Nat} {X : Ext}
theorem l00Max_r (hX : XN X) (a b : Int) (h : Heap) : Ret Try.prog ro X 74 [.int .i64 a, .int .i64 b] h (.int .i64 (max a b)) := by
  refine ret_of (callR_of (hX _ rfl) Try.func74 rfl (by kernel_rfl) (Nat.le_of_ble_eq_true rfl) ?_)
  (repeat' first | simp -dsimp (disch := first | omega | assumption | (refine OkS.sto ?_ (by omega); first | assumption | (refine OkS.sto ?_ (by omega); first | assumption | (refine OkS.sto ?_ (by omega); first | assumption | (refine OkS.sto ?_ (by omega); first | assumption | (refine OkS.sto ?_ (by omega); first | assumption | (refine OkS.sto ?_ (by omega); first | assumption)))))) | exact Pfx.refl _ | (apply Pfx.snoc; repeat (first | exact Pfx.refl _ | assumption | apply Pfx.snoc)) | with_unfolding_all exact of_eq_true (eq_true rfl) | (simp only [List.length_append, List.length_cons, List.length_nil]; omega)) only [↓wpre0, ↓wpre1, ↓reduceIte, Int.reduceToNat, Nat.reduceAdd, Nat.reduceMul, Nat.reduceEqDiff, wpost0, wpost1, wpost2, wpost3, wpost4, ite_self, ite_true, ite_false, if_true, if_false, bin_gtr, fr74, wrap_int, wrap_u8, iteP_yes, iteP_no] | refine iteP_two (fun hc hd => ?_) (fun hc hd => ?_) | refine iteP_intro (fun hc => ?_) (fun hc => ?_))
  · congr 1; omega
  · congr 1; omega
def babs (a : Int) : Int := max a (0 - a)
theorem l09Abs_r (hX : XN X) (a : Int) (ha : -1000000 ≤ a ∧ a ≤ 1000000) (h : Heap) : Ret Try.prog ro X 75 [.int .i64 a] h (.int .i64 (babs a)) := by
  refine ret_of (callR_of (hX _ rfl) Try.func75 rfl (by kernel_rfl) (Nat.le_of_ble_eq_true rfl) ?_)
  (repeat' first | simp -dsimp (disch := first | omega | assumption | (refine OkS.sto ?_ (by omega); first | assumption | (refine OkS.sto ?_ (by omega); first | assumption | (refine OkS.sto ?_ (by omega); first | assumption | (refine OkS.sto ?_ (by omega); first | assumption | (refine OkS.sto ?_ (by omega); first | assumption | (refine OkS.sto ?_ (by omega); first | assumption)))))) | exact Pfx.refl _ | (apply Pfx.snoc; repeat (first | exact Pfx.refl _ | assumption | apply Pfx.snoc)) | with_unfolding_all exact of_eq_true (eq_true rfl) | (simp only [List.length_append, List.length_cons, List.length_nil]; omega)) only [↓wpre0, ↓wpre1, ↓reduceIte, Int.reduceToNat, Nat.reduceAdd, Nat.reduceMul, Nat.reduceEqDiff, wpost0, wpost1, wpost2, wpost3, wpost4, ite_self, ite_true, ite_false, if_true, if_false, un_neg, fr75, wrap_int, wrap_u8, iteP_yes, iteP_no, l00Max_r hX] | refine iteP_two (fun hc hd => ?_) (fun hc hd => ?_) | refine iteP_intro (fun hc => ?_) (fun hc => ?_))
  rfl
theorem far_r (hX : XN X) (a : Int) (ha : -1000000 ≤ a ∧ a ≤ 1000000) (h : Heap) : Ret Try.prog ro X 80 [.int .i64 a] h (.int .i64 (babs a)) := by
  refine ret_of (callR_of (hX _ rfl) Try.func80 rfl (by kernel_rfl) (Nat.le_of_ble_eq_true rfl) ?_)
  (repeat' first | simp -dsimp (disch := first | omega | assumption | (refine OkS.sto ?_ (by omega); first | assumption | (refine OkS.sto ?_ (by omega); first | assumption | (refine OkS.sto ?_ (by omega); first | assumption | (refine OkS.sto ?_ (by omega); first | assumption | (refine OkS.sto ?_ (by omega); first | assumption | (refine OkS.sto ?_ (by omega); first | assumption)))))) | exact Pfx.refl _ | (apply Pfx.snoc; repeat (first | exact Pfx.refl _ | assumption | apply Pfx.snoc)) | with_unfolding_all exact of_eq_true (eq_true rfl) | (simp only [List.length_append, List.length_cons, List.length_nil]; omega)) only [↓wpre0, ↓wpre1, ↓reduceIte, Int.reduceToNat, Nat.reduceAdd, Nat.reduceMul, Nat.reduceEqDiff, wpost0, wpost1, wpost2, wpost3, wpost4, ite_self, ite_true, ite_false, if_true, if_false, un_neg, blt_maxI, fr80, wrap_int, wrap_u8, iteP_yes, iteP_no] | refine iteP_two (fun hc hd => ?_) (fun hc hd => ?_) | refine iteP_intro (fun hc => ?_) (fun hc => ?_))
  rfl
/-- The ticks of a switch. -/
def swt (a b c d : Int) : Int := (max (babs (a - c)) (babs (b - d)) + 15).tdiv 16
theorem swt_range {a b c d : Int} (ha : -64 ≤ a ∧ a ≤ 64) (hb : -64 ≤ b ∧ b ≤ 64) (hc : -64 ≤ c ∧ c ≤ 64) (hd : -64 ≤ d ∧ d ≤ 64) : 0 ≤ swt a b c d ∧ swt a b c d ≤ 64 := by
  unfold swt
  rw [Int.tdiv_eq_ediv_of_nonneg (by unfold babs; omega)]
  unfold babs
  omega
theorem l09Switch_r (hX : XN X) (a b c d : Int) (ha : -64 ≤ a ∧ a ≤ 64) (hb : -64 ≤ b ∧ b ≤ 64) (hc : -64 ≤ c ∧ c ≤ 64) (hd : -64 ≤ d ∧ d ≤ 64) (h : Heap) (hro : ro ≤ h.length) : Ret Try.prog ro X 114 [.agg ⟨[.int .i64 a, .int .i64 b]⟩, .agg ⟨[.int .i64 c, .int .i64 d]⟩] h (.int .i64 (swt a b c d)) := by
  have h1 : IntKind.i64.wrap (swt a b c d) = swt a b c d := by
    have := swt_range ha hb hc hd
    exact wrap_int (by omega) (by omega)
  have h2 : IntKind.i64.wrap (max (babs (a - c)) (babs (b - d)) + 15) = max (babs (a - c)) (babs (b - d)) + 15 := wrap_int (by unfold babs; omega) (by unfold babs; omega)
  refine ret_of (callR_of (hX _ rfl) Try.func114 rfl (by kernel_rfl) (Nat.le_of_ble_eq_true rfl) ?_)
  (repeat' first | simp -dsimp (disch := first | omega | assumption | (refine OkS.sto ?_ (by omega); first | assumption | (refine OkS.sto ?_ (by omega); first | assumption | (refine OkS.sto ?_ (by omega); first | assumption | (refine OkS.sto ?_ (by omega); first | assumption | (refine OkS.sto ?_ (by omega); first | assumption | (refine OkS.sto ?_ (by omega); first | assumption)))))) | exact Pfx.refl _ | (apply Pfx.snoc; repeat (first | exact Pfx.refl _ | assumption | apply Pfx.snoc)) | with_unfolding_all exact of_eq_true (eq_true rfl) | (simp only [List.length_append, List.length_cons, List.length_nil]; omega)) only [↓wpre0, ↓wpre1, ↓reduceIte, Int.reduceToNat, Nat.reduceAdd, Nat.reduceMul, Nat.reduceEqDiff, wpost0, wpost1, wpost2, wpost3, wpost4, ite_self, ite_true, ite_false, if_true, if_false, xfad96_0, xld2, bin_sub, xfad96_1, bin_add, bin_quo, fr114, wrap_int, wrap_u8, iteP_yes, iteP_no, l00Max_r hX, l09Abs_r hX, h2] | refine iteP_two (fun hc hd => ?_) (fun hc hd => ?_) | refine iteP_intro (fun hc => ?_) (fun hc => ?_))
  exact congrArg _ h1
theorem switchTicks_r (hX : XN X) (a b c d : Int) (ha : -64 ≤ a ∧ a ≤ 64) (hb : -64 ≤ b ∧ b ≤ 64) (hc : -64 ≤ c ∧ c ≤ 64) (hd : -64 ≤ d ∧ d ≤ 64) (h : Heap) (hro : ro ≤ h.length) : Ret Try.prog ro X 89 [.agg ⟨[.int .i64 a, .int .i64 b]⟩, .agg ⟨[.int .i64 c, .int .i64 d]⟩] h (.int .i64 (swt a b c d)) := by
  have h1 : IntKind.i64.wrap (swt a b c d) = swt a b c d := by
    have := swt_range ha hb hc hd
    exact wrap_int (by omega) (by omega)
  have h2 : IntKind.i64.wrap (max (babs (a - c)) (babs (b - d)) + 15) = max (babs (a - c)) (babs (b - d)) + 15 := wrap_int (by unfold babs; omega) (by unfold babs; omega)
  refine ret_of (callR_of (hX _ rfl) Try.func89 rfl (by kernel_rfl) (Nat.le_of_ble_eq_true rfl) ?_)
  (repeat' first | simp -dsimp (disch := first | omega | assumption | (refine OkS.sto ?_ (by omega); first | assumption | (refine OkS.sto ?_ (by omega); first | assumption | (refine OkS.sto ?_ (by omega); first | assumption | (refine OkS.sto ?_ (by omega); first | assumption | (refine OkS.sto ?_ (by omega); first | assumption | (refine OkS.sto ?_ (by omega); first | assumption)))))) | exact Pfx.refl _ | (apply Pfx.snoc; repeat (first | exact Pfx.refl _ | assumption | apply Pfx.snoc)) | with_unfolding_all exact of_eq_true (eq_true rfl) | (simp only [List.length_append, List.length_cons, List.length_nil]; omega)) only [↓wpre0, ↓wpre1, ↓reduceIte, Int.reduceToNat, Nat.reduceAdd, Nat.reduceMul, Nat.reduceEqDiff, wpost0, wpost1, wpost2, wpost3, wpost4, ite_self, ite_true, ite_false, if_true, if_false, xfad96_0, xld2, bin_sub, xfad96_1, blt_maxI, bin_add, bin_quo, fr89, wrap_int, wrap_u8, iteP_yes, iteP_no, far_r hX, h2] | refine iteP_two (fun hc hd => ?_) (fun hc hd => ?_) | refine iteP_intro (fun hc => ?_) (fun hc => ?_))
  exact congrArg _ h1
end Go.Proofs.Ytbakaopgdcojfaa.Sim
