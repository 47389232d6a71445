/- What the functions of beams come to. Lemmas only; no condition. -/
import Derived.Test.YtbakaopgdcojfaaSimS
import Derived.Test.YtbakaopgdcojfaaSimU
import Derived.Test.YtbakaopgdcojfaaFda
set_option linter.unusedSimpArgs false
set_option linter.unusedVariables false
namespace Go.Proofs.Ytbakaopgdcojfaa.Sim
open Go Go.RowKit
variable {ro : Nat} {X : Ext}
theorem sq_range {u : Int} (h0 : -64 ≤ u) (h1 : u ≤ 64) : 0 ≤ u * u ∧ u * u ≤ 4096 := by
  have h : u * u = ((u.natAbs * u.natAbs : Nat) : Int) := by rw [← Int.natAbs_mul_self]
  have h2 : u.natAbs * u.natAbs ≤ 64 * 64 := Nat.mul_le_mul (by omega) (by omega)
  omega
def dirOk (u v : Int) : Bool := decide (-64 ≤ u) && decide (u ≤ 64) && (decide (-64 ≤ v) && decide (v ≤ 64)) && decide (u * u + v * v ≤ 4096)
theorem l00In_r (hX : XN X) (n lo hi : Int) (h : Heap) : Ret Try.prog ro X 73 [.int .i64 n, .int .i64 lo, .int .i64 hi] h (.bool (decide (lo ≤ n) && decide (n ≤ hi))) := fun _ _ => cf_eq (l00In_c (hX _ rfl) n lo hi h)
theorem within_r (hX : XN X) (n lo hi : Int) (h : Heap) : Ret Try.prog ro X 78 [.int .i64 n, .int .i64 lo, .int .i64 hi] h (.bool (decide (lo ≤ n) && decide (n ≤ hi))) := fun _ _ => cf_eq (within_c (hX _ rfl) n lo hi h)
theorem l02Direction_r (hX : XN X) (u v : Int) (h : Heap) (hro : ro ≤ h.length) : Ret Try.prog ro X 102 [.agg ⟨[.int .i64 u, .int .i64 v]⟩] h (.bool (dirOk u v)) := by
  refine ret_of (callR_of (hX _ rfl) Try.func102 rfl (by kernel_rfl) (Nat.le_of_ble_eq_true rfl) ?_)
  (repeat' first | simp -dsimp (disch := first | omega | assumption | (refine OkS.sto ?_ (by omega); first | assumption | (refine OkS.sto ?_ (by omega); first | assumption | (refine OkS.sto ?_ (by omega); first | assumption | (refine OkS.sto ?_ (by omega); first | assumption | (refine OkS.sto ?_ (by omega); first | assumption | (refine OkS.sto ?_ (by omega); first | assumption)))))) | exact Pfx.refl _ | (apply Pfx.snoc; repeat (first | exact Pfx.refl _ | assumption | apply Pfx.snoc)) | with_unfolding_all exact of_eq_true (eq_true rfl) | (simp only [List.length_append, List.length_cons, List.length_nil]; omega)) only [↓wpre0, ↓wpre1, ↓reduceIte, Int.reduceToNat, Nat.reduceAdd, Nat.reduceMul, Nat.reduceEqDiff, wpost0, wpost1, wpost2, wpost3, wpost4, ite_self, ite_true, ite_false, if_true, if_false, xfad96_0, xld2, xfad96_1, bin_mul, bin_add, bin_leq, fr102, wrap_int, wrap_u8, iteP_yes, iteP_no, l00In_r hX] | refine iteP_two (fun hc hd => ?_) (fun hc hd => ?_) | refine iteP_intro (fun hc => ?_) (fun hc => ?_))
  · have h1 := sq_range (u := u) (by omega) (by omega)
    have h2 := sq_range (u := v) (by omega) (by omega)
    rw [wrap_int (n := u * u) (by omega) (by omega), wrap_int (n := v * v) (by omega) (by omega), wrap_int (by omega) (by omega)]
    simp [dirOk, *]
  all_goals simp [dirOk, hc]
theorem vDirection_r (hX : XN X) (u v : Int) (h : Heap) (hro : ro ≤ h.length) : Ret Try.prog ro X 104 [.agg ⟨[.int .i64 u, .int .i64 v]⟩] h (.bool (dirOk u v)) := by
  refine ret_of (callR_of (hX _ rfl) Try.func104 rfl (by kernel_rfl) (Nat.le_of_ble_eq_true rfl) ?_)
  (repeat' first | simp -dsimp (disch := first | omega | assumption | (refine OkS.sto ?_ (by omega); first | assumption | (refine OkS.sto ?_ (by omega); first | assumption | (refine OkS.sto ?_ (by omega); first | assumption | (refine OkS.sto ?_ (by omega); first | assumption | (refine OkS.sto ?_ (by omega); first | assumption | (refine OkS.sto ?_ (by omega); first | assumption)))))) | exact Pfx.refl _ | (apply Pfx.snoc; repeat (first | exact Pfx.refl _ | assumption | apply Pfx.snoc)) | with_unfolding_all exact of_eq_true (eq_true rfl) | (simp only [List.length_append, List.length_cons, List.length_nil]; omega)) only [↓wpre0, ↓wpre1, ↓reduceIte, Int.reduceToNat, Nat.reduceAdd, Nat.reduceMul, Nat.reduceEqDiff, wpost0, wpost1, wpost2, wpost3, wpost4, ite_self, ite_true, ite_false, if_true, if_false, xfad96_0, xld2, xfad96_1, bin_mul, bin_add, bin_leq, fr104, wrap_int, wrap_u8, iteP_yes, iteP_no, within_r hX] | refine iteP_two (fun hc hd => ?_) (fun hc hd => ?_) | refine iteP_intro (fun hc => ?_) (fun hc => ?_))
  · have h1 := sq_range (u := u) (by omega) (by omega)
    have h2 := sq_range (u := v) (by omega) (by omega)
    rw [wrap_int (n := u * u) (by omega) (by omega), wrap_int (n := v * v) (by omega) (by omega), wrap_int (by omega) (by omega)]
    simp [dirOk, *]
  all_goals simp [dirOk, hc]
def bOk (l : List Int) (i : Nat) : Bool := dirOk (nth l (i * 4)) (nth l (i * 4 + 1)) && (decide (1 ≤ nth l (i * 4 + 2)) && decide (nth l (i * 4 + 2) ≤ 10000)) && (decide (nth l (i * 4 + 2) ≤ nth l (i * 4 + 3)) && decide (nth l (i * 4 + 3) ≤ 10000))
def isB (n : Nat) (l : List Int) : Bool := (List.range n).all (bOk l) && (decide (1 ≤ (n : Int)) && decide ((n : Int) ≤ 7))
theorem isB_false {n i : Nat} {l : List Int} (hi : i < n) (h : bOk l i = false) : isB n l = false := by
  have : (List.range n).all (bOk l) = false := by
    rw [Bool.eq_false_iff]
    intro q
    rw [List.all_eq_true] at q
    rw [q i (List.mem_range.2 hi)] at h
    cases h
  simp [isB, this]
theorem isB_all {n : Nat} {l : List Int} (h : ∀ i, i < n → bOk l i = true) : isB n l = (decide (1 ≤ (n : Int)) && decide ((n : Int) ≤ 7)) := by
  have : (List.range n).all (bOk l) = true := by
    rw [List.all_eq_true]
    intro i hi
    exact h i (List.mem_range.1 hi)
  simp [isB, this]
theorem l09Is_r (hX : XN X) {lo hi n : Nat} {l : List Int} {x : Value} {h : Heap} (hI : IS lo hi 4 h x n l) (hn : n ≤ 1048576) (hro : ro ≤ h.length) : Ret Try.prog ro X 72 [x] h (.bool (isB n l)) := by
  refine ret_of (callR_of (hX _ rfl) Try.func72 rfl (by kernel_rfl) (Nat.le_of_ble_eq_true rfl) ?_)
  (repeat' first | simp -dsimp (disch := first | omega | assumption | (refine OkS.sto ?_ (by omega); first | assumption | (refine OkS.sto ?_ (by omega); first | assumption | (refine OkS.sto ?_ (by omega); first | assumption | (refine OkS.sto ?_ (by omega); first | assumption | (refine OkS.sto ?_ (by omega); first | assumption | (refine OkS.sto ?_ (by omega); first | assumption)))))) | exact Pfx.refl _ | (apply Pfx.snoc; repeat (first | exact Pfx.refl _ | assumption | apply Pfx.snoc)) | with_unfolding_all exact of_eq_true (eq_true rfl) | (simp only [List.length_append, List.length_cons, List.length_nil]; omega)) only [↓wpre0, ↓wpre1, ↓reduceIte, Int.reduceToNat, Nat.reduceAdd, Nat.reduceMul, Nat.reduceEqDiff, wpost0, wpost1, wpost2, wpost3, wpost4, ite_self, ite_true, ite_false, if_true, if_false, xlen42, bin_lss, xiad42, xld98, tze98, xst98, xfad98_0, xld96, un_not, xfad98_1, xld2, xfad98_2, bin_add, bin_geq, bin_leq, fr72, wrap_int, wrap_u8, iteP_yes, iteP_no, hI.len Try.underlying42] | refine iteP_two (fun hc hd => ?_) (fun hc hd => ?_) | refine iteP_intro (fun hc => ?_) (fun hc => ?_))
  refine loop_rounds (fun m e h' => ∃ i : Nat, m = n - i ∧ i ≤ n ∧ Pfx h h' ∧ e 0 = x ∧ e 6 = .int .i64 n ∧ e 7 = .int .i64 i ∧ ∀ j, j < i → bOk l j = true) _ ⟨0, rfl, ?_⟩ ?_
  · simp only [updO_at, updO_not, entry_at, List.getD_cons_zero, List.getD_cons_succ, ↓reduceIte, Nat.reduceEqDiff, true_and, and_true]
    refine ⟨by omega, Pfx.refl _, rfl, fun j hj => by omega⟩
  · rintro m e h' ⟨i, hm, hi, hp, g0, g6, g7, hall⟩
    have hl := hp.len
    have hI' := hI.pre hp
    (repeat' first | simp -dsimp (disch := first | omega | assumption | (refine OkS.sto ?_ (by omega); first | assumption | (refine OkS.sto ?_ (by omega); first | assumption | (refine OkS.sto ?_ (by omega); first | assumption | (refine OkS.sto ?_ (by omega); first | assumption | (refine OkS.sto ?_ (by omega); first | assumption | (refine OkS.sto ?_ (by omega); first | assumption)))))) | exact Pfx.refl _ | (apply Pfx.snoc; repeat (first | exact Pfx.refl _ | assumption | apply Pfx.snoc)) | with_unfolding_all exact of_eq_true (eq_true rfl) | (simp only [List.length_append, List.length_cons, List.length_nil]; omega)) only [↓wpre0, ↓wpre1, ↓reduceIte, Int.reduceToNat, Nat.reduceAdd, Nat.reduceMul, Nat.reduceEqDiff, wpost0, wpost1, wpost2, wpost3, wpost4, ite_self, ite_true, ite_false, if_true, if_false, xlen42, bin_lss, xiad42, xld98, tze98, xst98, xfad98_0, xld96, un_not, xfad98_1, xld2, xfad98_2, bin_add, bin_geq, bin_leq, fr72, wrap_int, wrap_u8, iteP_yes, iteP_no, g0, g6, g7, hI'.len Try.underlying42, IS.iad hI' Try.underlying42 tsz98, IS.ldm hI' tsz98 tag98, l00In_r hX, l02Direction_r hX] | refine iteP_two (fun hc hd => ?_) (fun hc hd => ?_) | refine iteP_intro (fun hc => ?_) (fun hc => ?_))
    · have hb : bOk l i = true := by simp [bOk, *]
      refine ⟨_, ?_, i + 1, rfl, by omega, hp.snoc, by simp, fun j hj => ?_⟩
      · omega
      · rcases Nat.lt_or_eq_of_le (show j ≤ i by omega) with q | q
        · exact hall j q
        · rw [q]; exact hb
    all_goals first
      | (rw [isB_false (i := i) (by omega) (by simp [bOk, *])]; done)
      | (have : i = n := by omega
         subst this
         first | (rw [isB_all hall]; done) | (rw [isB_all hall]; simp [*]; done))
      | skip
theorem areBeams_r (hX : XN X) {lo hi n : Nat} {l : List Int} {x : Value} {h : Heap} (hI : IS lo hi 4 h x n l) (hn : n ≤ 1048576) (hro : ro ≤ h.length) : Ret Try.prog ro X 77 [x] h (.bool (isB n l)) := by
  refine ret_of (callR_of (hX _ rfl) Try.func77 rfl (by kernel_rfl) (Nat.le_of_ble_eq_true rfl) ?_)
  (repeat' first | simp -dsimp (disch := first | omega | assumption | (refine OkS.sto ?_ (by omega); first | assumption | (refine OkS.sto ?_ (by omega); first | assumption | (refine OkS.sto ?_ (by omega); first | assumption | (refine OkS.sto ?_ (by omega); first | assumption | (refine OkS.sto ?_ (by omega); first | assumption | (refine OkS.sto ?_ (by omega); first | assumption)))))) | exact Pfx.refl _ | (apply Pfx.snoc; repeat (first | exact Pfx.refl _ | assumption | apply Pfx.snoc)) | with_unfolding_all exact of_eq_true (eq_true rfl) | (simp only [List.length_append, List.length_cons, List.length_nil]; omega)) only [↓wpre0, ↓wpre1, ↓reduceIte, Int.reduceToNat, Nat.reduceAdd, Nat.reduceMul, Nat.reduceEqDiff, wpost0, wpost1, wpost2, wpost3, wpost4, ite_self, ite_true, ite_false, if_true, if_false, xlen42, bin_lss, xiad42, xld98, tze98, xst98, xfad98_0, xld96, un_not, xfad98_1, xld2, xfad98_2, bin_add, fr77, wrap_int, wrap_u8, iteP_yes, iteP_no, hI.len Try.underlying42] | refine iteP_two (fun hc hd => ?_) (fun hc hd => ?_) | refine iteP_intro (fun hc => ?_) (fun hc => ?_))
  refine loop_rounds (fun m e h' => ∃ i : Nat, m = n - i ∧ i ≤ n ∧ Pfx h h' ∧ e 0 = x ∧ e 5 = x ∧ e 6 = .int .i64 n ∧ e 7 = .int .i64 i ∧ ∀ j, j < i → bOk l j = true) _ ⟨0, rfl, ?_⟩ ?_
  · simp only [updO_at, updO_not, entry_at, List.getD_cons_zero, List.getD_cons_succ, ↓reduceIte, Nat.reduceEqDiff, true_and, and_true]
    refine ⟨by omega, Pfx.refl _, rfl, fun j hj => by omega⟩
  · rintro m e h' ⟨i, hm, hi, hp, g0, g5, g6, g7, hall⟩
    have hl := hp.len
    have hI' := hI.pre hp
    (repeat' first | simp -dsimp (disch := first | omega | assumption | (refine OkS.sto ?_ (by omega); first | assumption | (refine OkS.sto ?_ (by omega); first | assumption | (refine OkS.sto ?_ (by omega); first | assumption | (refine OkS.sto ?_ (by omega); first | assumption | (refine OkS.sto ?_ (by omega); first | assumption | (refine OkS.sto ?_ (by omega); first | assumption)))))) | exact Pfx.refl _ | (apply Pfx.snoc; repeat (first | exact Pfx.refl _ | assumption | apply Pfx.snoc)) | with_unfolding_all exact of_eq_true (eq_true rfl) | (simp only [List.length_append, List.length_cons, List.length_nil]; omega)) only [↓wpre0, ↓wpre1, ↓reduceIte, Int.reduceToNat, Nat.reduceAdd, Nat.reduceMul, Nat.reduceEqDiff, wpost0, wpost1, wpost2, wpost3, wpost4, ite_self, ite_true, ite_false, if_true, if_false, xlen42, bin_lss, xiad42, xld98, tze98, xst98, xfad98_0, xld96, un_not, xfad98_1, xld2, xfad98_2, bin_add, fr77, wrap_int, wrap_u8, iteP_yes, iteP_no, g0, g5, g6, g7, hI'.len Try.underlying42, IS.iad hI' Try.underlying42 tsz98, IS.ldm hI' tsz98 tag98, within_r hX, vDirection_r hX] | refine iteP_two (fun hc hd => ?_) (fun hc hd => ?_) | refine iteP_intro (fun hc => ?_) (fun hc => ?_))
    · have hb : bOk l i = true := by simp [bOk, *]
      refine ⟨_, ?_, i + 1, rfl, by omega, hp.snoc, by simp, fun j hj => ?_⟩
      · omega
      · rcases Nat.lt_or_eq_of_le (show j ≤ i by omega) with q | q
        · exact hall j q
        · rw [q]; exact hb
    all_goals first
      | (rw [isB_false (i := i) (by omega) (by simp [bOk, *])]; done)
      | (have : i = n := by omega
         subst this
         first | (rw [isB_all hall]; done) | (rw [isB_all hall]; simp [*]; done))
      | skip

end Go.Proofs.Ytbakaopgdcojfaa.Sim
