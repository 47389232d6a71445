/- What the laws do with their bytes. Lemmas only; no condition. -/
import Derived.Test.YtelogajobjflfaaAcc
import Derived.Test.YtelogajobjflfaaSimU
import Derived.Test.YtelogajobjflfaaArb
set_option linter.unusedSimpArgs false
set_option linter.unusedVariables false
set_option maxRecDepth 8000
namespace Go.Proofs.Ytelogajobjflfaa.Sim
open Go Go.RowKit
variable {ro : Nat} {X : Ext}
theorem long_r (hX : X 15 = none) {lo hi lo' hi' n n' : Nat} {x y : Value} {L M : List Value} {h : Heap} (hV : VS lo hi 1 h x n L) (hU : VS lo' hi' 1 h y n' M) (hn : n ≤ 140737488355328) (hn' : n' ≤ 140737488355328) : Ret Try.prog ro X 15 [x, y] h (.bool (decide (1048576 < n) || decide (1048576 < n'))) := by
  refine ret_of (callR_of hX Try.func15 rfl (by kernel_rfl) (Nat.le_of_ble_eq_true rfl) ?_)
  (repeat' first | simp -dsimp (disch := first | omega | assumption | (refine OkS.sto ?_ (by omega); first | assumption | (refine OkS.sto ?_ (by omega); first | assumption | (refine OkS.sto ?_ (by omega); first | assumption | (refine OkS.sto ?_ (by omega); first | assumption | (refine OkS.sto ?_ (by omega); first | assumption | (refine OkS.sto ?_ (by omega); first | assumption)))))) | exact Pfx.refl _ | (apply Pfx.snoc; repeat (first | exact Pfx.refl _ | assumption | apply Pfx.snoc)) | with_unfolding_all exact of_eq_true (eq_true rfl) | (simp only [List.length_append, List.length_cons, List.length_nil]; omega)) only [↓wpre0, ↓wpre1, ↓reduceIte, Int.reduceToNat, Nat.reduceAdd, Nat.reduceMul, Nat.reduceEqDiff, wpost0, wpost1, wpost2, wpost3, wpost4, ite_self, ite_true, ite_false, if_true, if_false, xlen22, bin_gtr, fr15, wrap_int, wrap_u8, iteP_yes, iteP_no, hV.len Try.underlying22, hU.len Try.underlying22] | refine iteP_two (fun hc hd => ?_) (fun hc hd => ?_) | refine iteP_intro (fun hc => ?_) (fun hc => ?_))
  all_goals first
    | (rw [decide_eq_true (p := 1048576 < n) (by omega)]; rfl)
    | (rw [decide_eq_false (p := 1048576 < n) (by omega), Bool.false_or]; congr 1; exact decide_eq_decide.2 (by omega))
theorem at_r (hX : X 17 = none) {lo hi : Nat} {x : Value} {cd : List UInt8} {h : Heap} {i n : Int} (hV : VS lo hi 1 h x cd.length (cd.map u8v)) (h0 : 0 ≤ i) (h1 : i ≤ 100000) (hn : 1 ≤ n) (hn2 : n ≤ 100000) (hl : cd.length ≤ 1099511627776) : ∃ v : Nat, (v : Int) < n ∧ Ret Try.prog ro X 17 [x, .int .i64 i, .int .i64 n] h (.int .i64 v) := by
  by_cases hn1 : n ≤ 1
  · refine ⟨0, by omega, ?_⟩
    refine ret_of (callR_of hX Try.func17 rfl (by kernel_rfl) (Nat.le_of_ble_eq_true rfl) ?_)
    (repeat' first | simp -dsimp (disch := first | omega | assumption | (refine OkS.sto ?_ (by omega); first | assumption | (refine OkS.sto ?_ (by omega); first | assumption | (refine OkS.sto ?_ (by omega); first | assumption | (refine OkS.sto ?_ (by omega); first | assumption | (refine OkS.sto ?_ (by omega); first | assumption | (refine OkS.sto ?_ (by omega); first | assumption)))))) | exact Pfx.refl _ | (apply Pfx.snoc; repeat (first | exact Pfx.refl _ | assumption | apply Pfx.snoc)) | with_unfolding_all exact of_eq_true (eq_true rfl) | (simp only [List.length_append, List.length_cons, List.length_nil]; omega)) only [↓wpre0, ↓wpre1, ↓reduceIte, Int.reduceToNat, Nat.reduceAdd, Nat.reduceMul, Nat.reduceEqDiff, wpost0, wpost1, wpost2, wpost3, wpost4, ite_self, ite_true, ite_false, if_true, if_false, bin_leq, xlen22, bin_lss, xiad22, xld5, xcv5_2, bin_rem, bin_mul, bin_add, fr17, wrap_int, wrap_u8, iteP_yes, iteP_no] | refine iteP_two (fun hc hd => ?_) (fun hc hd => ?_) | refine iteP_intro (fun hc => ?_) (fun hc => ?_))
    rfl
  by_cases hin : i < cd.length
  · obtain ⟨m, rfl⟩ : ∃ m : Nat, i = m := ⟨i.toNat, by omega⟩
    have hm : m < cd.length := by omega
    have hld : ld Try.prog h 5 (ea x (m * 1)) = some (.int .u8 ((cd[m]'hm).toNat : Int)) := by
      rw [hV.ld1 tsz5 tag5 (by omega), Nat.mul_one]
      simp [vth, u8v, List.getD_eq_getElem?_getD, hm]
    have hb := (cd[m]'hm).toNat_lt
    generalize (cd[m]'hm).toNat = w at *
    have hmod : ((w : Int).tmod n) = ((w % n.toNat : Nat) : Int) := by
      rw [Int.tmod_eq_emod_of_nonneg (by omega)]
      conv => lhs; rw [show n = (n.toNat : Int) by omega]
      rfl
    have hlt : w % n.toNat < n.toNat := Nat.mod_lt _ (by omega)
    refine ⟨w % n.toNat, by omega, ?_⟩
    refine ret_of (callR_of hX Try.func17 rfl (by kernel_rfl) (Nat.le_of_ble_eq_true rfl) ?_)
    (repeat' first | simp -dsimp (disch := first | omega | assumption | (refine OkS.sto ?_ (by omega); first | assumption | (refine OkS.sto ?_ (by omega); first | assumption | (refine OkS.sto ?_ (by omega); first | assumption | (refine OkS.sto ?_ (by omega); first | assumption | (refine OkS.sto ?_ (by omega); first | assumption | (refine OkS.sto ?_ (by omega); first | assumption)))))) | exact Pfx.refl _ | (apply Pfx.snoc; repeat (first | exact Pfx.refl _ | assumption | apply Pfx.snoc)) | with_unfolding_all exact of_eq_true (eq_true rfl) | (simp only [List.length_append, List.length_cons, List.length_nil]; omega)) only [↓wpre0, ↓wpre1, ↓reduceIte, Int.reduceToNat, Nat.reduceAdd, Nat.reduceMul, Nat.reduceEqDiff, wpost0, wpost1, wpost2, wpost3, wpost4, ite_self, ite_true, ite_false, if_true, if_false, bin_leq, xlen22, bin_lss, xiad22, xld5, xcv5_2, bin_rem, bin_mul, bin_add, fr17, wrap_int, wrap_u8, iteP_yes, iteP_no, hV.len Try.underlying22, hV.iad Try.underlying22 tsz5, Int.toNat_natCast, hld, bin_rem, hmod] | refine iteP_two (fun hc hd => ?_) (fun hc hd => ?_) | refine iteP_intro (fun hc => ?_) (fun hc => ?_))
  · have hmod : ((i * 37 + 11).tmod n) = (((i * 37 + 11).toNat % n.toNat : Nat) : Int) := by
      rw [Int.tmod_eq_emod_of_nonneg (by omega)]
      conv => lhs; rw [show n = (n.toNat : Int) by omega, show i * 37 + 11 = ((i * 37 + 11).toNat : Int) by omega]
      rfl
    have hlt : (i * 37 + 11).toNat % n.toNat < n.toNat := Nat.mod_lt _ (by omega)
    refine ⟨(i * 37 + 11).toNat % n.toNat, by omega, ?_⟩
    refine ret_of (callR_of hX Try.func17 rfl (by kernel_rfl) (Nat.le_of_ble_eq_true rfl) ?_)
    (repeat' first | simp -dsimp (disch := first | omega | assumption | (refine OkS.sto ?_ (by omega); first | assumption | (refine OkS.sto ?_ (by omega); first | assumption | (refine OkS.sto ?_ (by omega); first | assumption | (refine OkS.sto ?_ (by omega); first | assumption | (refine OkS.sto ?_ (by omega); first | assumption | (refine OkS.sto ?_ (by omega); first | assumption)))))) | exact Pfx.refl _ | (apply Pfx.snoc; repeat (first | exact Pfx.refl _ | assumption | apply Pfx.snoc)) | with_unfolding_all exact of_eq_true (eq_true rfl) | (simp only [List.length_append, List.length_cons, List.length_nil]; omega)) only [↓wpre0, ↓wpre1, ↓reduceIte, Int.reduceToNat, Nat.reduceAdd, Nat.reduceMul, Nat.reduceEqDiff, wpost0, wpost1, wpost2, wpost3, wpost4, ite_self, ite_true, ite_false, if_true, if_false, bin_leq, xlen22, bin_lss, xiad22, xld5, xcv5_2, bin_rem, bin_mul, bin_add, fr17, wrap_int, wrap_u8, iteP_yes, iteP_no, hV.len Try.underlying22, bin_rem, hmod] | refine iteP_two (fun hc hd => ?_) (fun hc hd => ?_) | refine iteP_intro (fun hc => ?_) (fun hc => ?_))
end Go.Proofs.Ytelogajobjflfaa.Sim
