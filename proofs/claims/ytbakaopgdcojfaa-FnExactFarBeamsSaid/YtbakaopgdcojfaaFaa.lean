/- Groups of beams that are far apart: plain Lean, and the closures of the program. Lemmas only; no condition. -/
import Derived.Test.YtbakaopgdcojfaaVs
import Derived.Test.YtbakaopgdcojfaaPla
import Derived.Test.YtbakaopgdcojfaaFba
set_option linter.unusedSimpArgs false
set_option linter.unusedVariables false
namespace Go.Proofs.Ytbakaopgdcojfaa.Sim
open Go Go.RowKit
variable {ro : Nat} {X : Ext}
/-- Where the first number of a list lies of which something holds; -1 where there is none. -/
def fidx {α : Type} (p : α → Bool) (l : List α) : Int := match l.findIdx? p with | some j => (j : Int) | none => -1
theorem fidx_some {α : Type} {p : α → Bool} {l : List α} {i : Nat} (hi : i < l.length) (h : p l[i] = true) (hb : ∀ j, (hj : j < i) → p (l[j]'(by omega)) = false) : fidx p l = i := by
  unfold fidx
  have : l.findIdx? p = some i := by
    rw [List.findIdx?_eq_some_iff_getElem]
    exact ⟨hi, h, fun j hj => by rw [hb j hj]; simp⟩
  rw [this]
theorem fidx_none {α : Type} {p : α → Bool} {l : List α} (h : ∀ j, (hj : j < l.length) → p l[j] = false) : fidx p l = -1 := by
  unfold fidx
  have : l.findIdx? p = none := by
    rw [List.findIdx?_eq_none_iff]
    intro x hx
    obtain ⟨i, hi, rfl⟩ := List.mem_iff_getElem.1 hx
    exact h i hi
  rw [this]
theorem fidx_range {α : Type} {p : α → Bool} {l : List α} : -1 ≤ fidx p l ∧ fidx p l < l.length := by
  unfold fidx
  split
  · rename_i j h
    rw [List.findIdx?_eq_some_iff_getElem] at h
    obtain ⟨h1, _⟩ := h
    omega
  · omega
theorem fidx_any {α : Type} {p : α → Bool} {l : List α} : decide (0 ≤ fidx p l) = l.any p := by
  unfold fidx
  cases h : l.findIdx? p with
  | some j =>
    rw [List.findIdx?_eq_some_iff_getElem] at h
    obtain ⟨h1, h2, _⟩ := h
    have : l.any p = true := by rw [List.any_eq_true]; exact ⟨_, List.getElem_mem h1, h2⟩
    rw [this]
    simp
  | none =>
    rw [List.findIdx?_eq_none_iff] at h
    have : l.any p = false := by rw [List.any_eq_false]; intro x hx; rw [h x hx]; simp
    rw [this]
    simp
/-- slices.IndexFunc on whole numbers. -/
theorem idxI_r (hX : ∀ f, X f = none) {lo hi n : Nat} {l : List Int} {x : Value} {h : Heap} (hI : IS lo hi 1 h x n l) (hn : n ≤ 1099511627776) (f : FuncId) (cap : List Value) (p : Int → Bool) (hf : ∀ i, i < n → Ret Try.prog ro X f (.int .i64 (nth l i) :: cap) h (.bool (p (nth l i)))) :
    Ret Try.prog ro X 105 [x, .func (.func f) ⟨[]⟩ ⟨cap⟩] h (.int .i64 (fidx p l)) := by
  have hl : l.length = n := by rw [hI.1, Nat.mul_one]
  have hnth : ∀ (j : Nat) (hj : j < l.length), l[j] = nth l j := fun j hj => by simp [nth, hj]
  refine ret_of (callR_of (hX _) Try.func105 rfl (by kernel_rfl) (Nat.le_of_ble_eq_true rfl) ?_)
  (repeat' first | simp -dsimp (disch := first | omega | assumption | (refine OkS.sto ?_ (by omega); first | assumption | (refine OkS.sto ?_ (by omega); first | assumption | (refine OkS.sto ?_ (by omega); first | assumption | (refine OkS.sto ?_ (by omega); first | assumption | (refine OkS.sto ?_ (by omega); first | assumption | (refine OkS.sto ?_ (by omega); first | assumption)))))) | exact Pfx.refl _ | (apply Pfx.snoc; repeat (first | exact Pfx.refl _ | assumption | apply Pfx.snoc)) | with_unfolding_all exact of_eq_true (eq_true rfl) | (simp only [List.length_append, List.length_cons, List.length_nil]; omega)) only [↓wpre0, ↓wpre1, ↓reduceIte, Int.reduceToNat, Nat.reduceAdd, Nat.reduceMul, Nat.reduceEqDiff, wpost0, wpost1, wpost2, wpost3, wpost4, ite_self, ite_true, ite_false, if_true, if_false, xlen63, bin_lss, xiad63, xld2, bin_add, fr105, wrap_int, wrap_u8, iteP_yes, iteP_no, hI.len Try.underlying63] | refine iteP_two (fun hc hd => ?_) (fun hc hd => ?_) | refine iteP_intro (fun hc => ?_) (fun hc => ?_))
  refine loop_rounds (fun m e h' => ∃ i : Nat, m = n - i ∧ i ≤ n ∧ h' = h ∧ e 0 = x ∧ e 1 = .func (.func f) ⟨[]⟩ ⟨cap⟩ ∧ e 7 = .int .i64 n ∧ e 8 = .int .i64 i ∧ ∀ j, j < i → p (nth l j) = false) _ ⟨0, rfl, ?_⟩ ?_
  · simp only [updO_at, updO_not, entry_at, List.getD_cons_zero, List.getD_cons_succ, ↓reduceIte, Nat.reduceEqDiff, true_and, and_true]
    exact ⟨by omega, rfl, fun j hj => by omega⟩
  · rintro m e h' ⟨i, hm, hle, rfl, g0, g1, g7, g8, hall⟩
    by_cases hin : i < n
    · have hfi := hf i hin
      (repeat' first | simp -dsimp (disch := first | omega | assumption | (refine OkS.sto ?_ (by omega); first | assumption | (refine OkS.sto ?_ (by omega); first | assumption | (refine OkS.sto ?_ (by omega); first | assumption | (refine OkS.sto ?_ (by omega); first | assumption | (refine OkS.sto ?_ (by omega); first | assumption | (refine OkS.sto ?_ (by omega); first | assumption)))))) | exact Pfx.refl _ | (apply Pfx.snoc; repeat (first | exact Pfx.refl _ | assumption | apply Pfx.snoc)) | with_unfolding_all exact of_eq_true (eq_true rfl) | (simp only [List.length_append, List.length_cons, List.length_nil]; omega)) only [↓wpre0, ↓wpre1, ↓reduceIte, Int.reduceToNat, Nat.reduceAdd, Nat.reduceMul, Nat.reduceEqDiff, wpost0, wpost1, wpost2, wpost3, wpost4, ite_self, ite_true, ite_false, if_true, if_false, xlen63, bin_lss, xiad63, xld2, bin_add, fr105, wrap_int, wrap_u8, iteP_yes, iteP_no, g0, g1, g7, g8, IS.iad hI Try.underlying63 tsz2, IS.ld1 hI tsz2 tag2, Nat.mul_one, hfi] | refine iteP_two (fun hc hd => ?_) (fun hc hd => ?_) | refine iteP_intro (fun hc => ?_) (fun hc => ?_))
      · rw [fidx_some (i := i) (by omega) (by rw [hnth]; exact hc) (fun j hj => by rw [hnth]; exact hall j hj)]
      · refine ⟨_, by omega, i + 1, rfl, by omega, by simp, fun j hj => ?_⟩
        rcases Nat.lt_or_eq_of_le (show j ≤ i by omega) with q | q
        · exact hall j q
        · rw [q]; exact hc
    · have : i = n := by omega
      subst this
      (repeat' first | simp -dsimp (disch := first | omega | assumption | (refine OkS.sto ?_ (by omega); first | assumption | (refine OkS.sto ?_ (by omega); first | assumption | (refine OkS.sto ?_ (by omega); first | assumption | (refine OkS.sto ?_ (by omega); first | assumption | (refine OkS.sto ?_ (by omega); first | assumption | (refine OkS.sto ?_ (by omega); first | assumption)))))) | exact Pfx.refl _ | (apply Pfx.snoc; repeat (first | exact Pfx.refl _ | assumption | apply Pfx.snoc)) | with_unfolding_all exact of_eq_true (eq_true rfl) | (simp only [List.length_append, List.length_cons, List.length_nil]; omega)) only [↓wpre0, ↓wpre1, ↓reduceIte, Int.reduceToNat, Nat.reduceAdd, Nat.reduceMul, Nat.reduceEqDiff, wpost0, wpost1, wpost2, wpost3, wpost4, ite_self, ite_true, ite_false, if_true, if_false, xlen63, bin_lss, xiad63, xld2, bin_add, fr105, wrap_int, wrap_u8, iteP_yes, iteP_no, g0, g1, g7, g8] | refine iteP_two (fun hc hd => ?_) (fun hc hd => ?_) | refine iteP_intro (fun hc => ?_) (fun hc => ?_))
      rw [fidx_none (fun j hj => by rw [hnth]; exact hall j (by omega))]
theorem conI_r (hX : ∀ f, X f = none) {lo hi n : Nat} {l : List Int} {x : Value} {h : Heap} (hI : IS lo hi 1 h x n l) (hn : n ≤ 1099511627776) (f : FuncId) (cap : List Value) (p : Int → Bool) (hf : ∀ i, i < n → Ret Try.prog ro X f (.int .i64 (nth l i) :: cap) h (.bool (p (nth l i)))) :
    Ret Try.prog ro X 83 [x, .func (.func f) ⟨[]⟩ ⟨cap⟩] h (.bool (l.any p)) := by
  have hl : l.length = n := by rw [hI.1, Nat.mul_one]
  refine ret_of (callR_of (hX _) Try.func83 rfl (by kernel_rfl) (Nat.le_of_ble_eq_true rfl) ?_)
  (repeat' first | simp -dsimp (disch := first | omega | assumption | (refine OkS.sto ?_ (by omega); first | assumption | (refine OkS.sto ?_ (by omega); first | assumption | (refine OkS.sto ?_ (by omega); first | assumption | (refine OkS.sto ?_ (by omega); first | assumption | (refine OkS.sto ?_ (by omega); first | assumption | (refine OkS.sto ?_ (by omega); first | assumption)))))) | exact Pfx.refl _ | (apply Pfx.snoc; repeat (first | exact Pfx.refl _ | assumption | apply Pfx.snoc)) | with_unfolding_all exact of_eq_true (eq_true rfl) | (simp only [List.length_append, List.length_cons, List.length_nil]; omega)) only [↓wpre0, ↓wpre1, ↓reduceIte, Int.reduceToNat, Nat.reduceAdd, Nat.reduceMul, Nat.reduceEqDiff, wpost0, wpost1, wpost2, wpost3, wpost4, ite_self, ite_true, ite_false, if_true, if_false, bin_geq, fr83, wrap_int, wrap_u8, iteP_yes, iteP_no, idxI_r hX hI hn f cap p hf, fidx_any] | refine iteP_two (fun hc hd => ?_) (fun hc hd => ?_) | refine iteP_intro (fun hc => ?_) (fun hc => ?_))
end Go.Proofs.Ytbakaopgdcojfaa.Sim
