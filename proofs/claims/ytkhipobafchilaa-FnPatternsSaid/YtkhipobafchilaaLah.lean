/- What the laws do with their bytes. Lemmas only; no condition. -/
import Derived.Test.YtkhipobafchilaaAcc
import Derived.Test.YtkhipobafchilaaSimU
import Derived.Test.YtkhipobafchilaaArb
set_option linter.unusedSimpArgs false
set_option linter.unusedVariables false
set_option maxRecDepth 8000
namespace Go.Proofs.Ytkhipobafchilaa.Sim
open Go Go.RowKit
variable {ro : Nat} {X : Ext}
theorem long_r (hX : X 4 = none) {lo hi lo' hi' n n' : Nat} {x y : Value} {L M : List Value} {h : Heap} (hV : VS lo hi 1 h x n L) (hU : VS lo' hi' 1 h y n' M) (hn : n ≤ 140737488355328) (hn' : n' ≤ 140737488355328) : Ret Try.prog ro X 4 [x, y] h (.bool (decide (1048576 < n) || decide (1048576 < n'))) := by
  refine ret_of (callR_of hX Try.func4 rfl (by kernel_rfl) (Nat.le_of_ble_eq_true rfl) ?_)
  (repeat' first | simp -dsimp (disch := first | omega | assumption | (refine OkS.sto ?_ (by omega); first | assumption | (refine OkS.sto ?_ (by omega); first | assumption | (refine OkS.sto ?_ (by omega); first | assumption | (refine OkS.sto ?_ (by omega); first | assumption | (refine OkS.sto ?_ (by omega); first | assumption | (refine OkS.sto ?_ (by omega); first | assumption)))))) | exact Pfx.refl _ | (apply Pfx.snoc; repeat (first | exact Pfx.refl _ | assumption | apply Pfx.snoc)) | with_unfolding_all exact of_eq_true (eq_true rfl) | (simp only [List.length_append, List.length_cons, List.length_nil]; omega)) only [↓wpre0, ↓wpre1, ↓reduceIte, Int.reduceToNat, Nat.reduceAdd, Nat.reduceMul, Nat.reduceEqDiff, wpost0, wpost1, wpost2, wpost3, wpost4, ite_self, ite_true, ite_false, if_true, if_false, xlen22, bin_gtr, fr4, wrap_int, wrap_u8, iteP_yes, iteP_no, hV.len Try.underlying22, hU.len Try.underlying22] | refine iteP_two (fun hc hd => ?_) (fun hc hd => ?_) | refine iteP_intro (fun hc => ?_) (fun hc => ?_))
  all_goals first
    | (rw [decide_eq_true (p := 1048576 < n) (by omega)]; rfl)
    | (rw [decide_eq_false (p := 1048576 < n) (by omega), Bool.false_or]; congr 1; exact decide_eq_decide.2 (by omega))
end Go.Proofs.Ytkhipobafchilaa.Sim
