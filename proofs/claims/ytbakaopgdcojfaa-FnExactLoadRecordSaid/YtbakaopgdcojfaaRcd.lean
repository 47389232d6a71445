/- Slices of complex numbers: what the functions that compare, mark and hold them come to. Lemmas only; no condition. -/
import Derived.Test.YtbakaopgdcojfaaRcc
import Derived.Test.YtbakaopgdcojfaaWide
set_option linter.unusedSimpArgs false
set_option linter.unusedVariables false
set_option maxRecDepth 8000
namespace Go.Proofs.Ytbakaopgdcojfaa.Sim
open Go Go.RowKit
variable {ro : Nat} {X : Ext}
def cpm (c : Int) : Value := .complex .f32 (mkb c) 1065353216
/-- Marked up to a place. -/
def mkc (c : Int) (m : Nat) (L : List Value) : List Value := ((List.range m).map fun i : Nat => cpm (c + (i : Int))) ++ L.drop m
theorem mkc_zero (c : Int) (L : List Value) : mkc c 0 L = L := by simp [mkc]
theorem mkc_len {c : Int} {m : Nat} {L : List Value} (h : m ≤ L.length) : (mkc c m L).length = L.length := by
  simp only [mkc, List.length_append, List.length_map, List.length_range, List.length_drop]; omega
theorem mkc_vth {c : Int} {m i : Nat} {L : List Value} (h : i < m) : vth (mkc c m L) i = cpm (c + (i : Int)) := by
  simp only [vth, mkc, List.getD_eq_getElem?_getD]
  rw [List.getElem?_append_left (by simpa using h)]
  simp [h]
theorem mkc_set {c : Int} {m : Nat} {L : List Value} (h : m < L.length) : (mkc c m L).set m (cpm (c + (m : Int))) = mkc c (m + 1) L := by
  refine List.ext_getElem? fun j => ?_
  rw [List.getElem?_set]
  have hl1 : ((List.range m).map fun i : Nat => cpm (c + (i : Int))).length = m := by simp
  have hl2 : ((List.range (m + 1)).map fun i : Nat => cpm (c + (i : Int))).length = m + 1 := by simp
  by_cases e : m = j
  · subst e
    rw [if_pos rfl, if_pos (by rw [mkc_len (by omega)]; exact h)]
    unfold mkc
    rw [List.getElem?_append_left (by rw [hl2]; omega)]
    simp
  · rw [if_neg e]
    unfold mkc
    by_cases q : j < m
    · rw [List.getElem?_append_left (by rw [hl1]; exact q), List.getElem?_append_left (by rw [hl2]; omega)]
      simp [q, Nat.lt_succ_of_lt q]
    · rw [List.getElem?_append_right (by rw [hl1]; omega), List.getElem?_append_right (by rw [hl2]; omega), hl1, hl2, List.getElem?_drop, List.getElem?_drop]
      congr 1
      omega
theorem sameFloat_r (hX : XN X) (b : Nat) (h : Heap) : Ret Try.prog ro X 117 [.float .f64 b, .float .f64 b] h (.bool true) := by
  refine ret_of (callR_of (hX _ rfl) Try.func117 rfl (by kernel_rfl) (Nat.le_of_ble_eq_true rfl) ?_)
  cases hn : (FloatKind.f64.decode b).isNaN with
  | true => 
    (repeat' first | simp -dsimp (disch := first | omega | assumption | (refine OkS.sto ?_ (by omega); first | assumption | (refine OkS.sto ?_ (by omega); first | assumption | (refine OkS.sto ?_ (by omega); first | assumption | (refine OkS.sto ?_ (by omega); first | assumption | (refine OkS.sto ?_ (by omega); first | assumption | (refine OkS.sto ?_ (by omega); first | assumption)))))) | exact Pfx.refl _ | (apply Pfx.snoc; repeat (first | exact Pfx.refl _ | assumption | apply Pfx.snoc)) | with_unfolding_all exact of_eq_true (eq_true rfl) | (simp only [List.length_append, List.length_cons, List.length_nil]; omega)) only [↓wpre0, ↓wpre1, ↓reduceIte, Int.reduceToNat, Nat.reduceAdd, Nat.reduceMul, Nat.reduceEqDiff, wpost0, wpost1, wpost2, wpost3, wpost4, ite_self, ite_true, ite_false, if_true, if_false, bin_fneq, bin_feql, bin_fquo, bin_fgtr, xbeql4, fr117, wrap_int, wrap_u8, iteP_yes, iteP_no, bin_fneq, bin_feql, bin_fquo, bin_fgtr, order_self, hn] | refine iteP_two (fun hc hd => ?_) (fun hc hd => ?_) | refine iteP_intro (fun hc => ?_) (fun hc => ?_))
  | false => 
    (repeat' first | simp -dsimp (disch := first | omega | assumption | (refine OkS.sto ?_ (by omega); first | assumption | (refine OkS.sto ?_ (by omega); first | assumption | (refine OkS.sto ?_ (by omega); first | assumption | (refine OkS.sto ?_ (by omega); first | assumption | (refine OkS.sto ?_ (by omega); first | assumption | (refine OkS.sto ?_ (by omega); first | assumption)))))) | exact Pfx.refl _ | (apply Pfx.snoc; repeat (first | exact Pfx.refl _ | assumption | apply Pfx.snoc)) | with_unfolding_all exact of_eq_true (eq_true rfl) | (simp only [List.length_append, List.length_cons, List.length_nil]; omega)) only [↓wpre0, ↓wpre1, ↓reduceIte, Int.reduceToNat, Nat.reduceAdd, Nat.reduceMul, Nat.reduceEqDiff, wpost0, wpost1, wpost2, wpost3, wpost4, ite_self, ite_true, ite_false, if_true, if_false, bin_fneq, bin_feql, bin_fquo, bin_fgtr, xbeql4, fr117, wrap_int, wrap_u8, iteP_yes, iteP_no, bin_fneq, bin_feql, bin_fquo, bin_fgtr, order_self, hn] | refine iteP_two (fun hc hd => ?_) (fun hc hd => ?_) | refine iteP_intro (fun hc => ?_) (fun hc => ?_))
    rw [beq_self_eq_true]
theorem sameComplex_r (hX : XN X) (a b : Nat) (h : Heap) : Ret Try.prog ro X 101 [.complex .f64 a b, .complex .f64 a b] h (.bool true) := by
  refine ret_of (callR_of (hX _ rfl) Try.func101 rfl (by kernel_rfl) (Nat.le_of_ble_eq_true rfl) ?_)
  (repeat' first | simp -dsimp (disch := first | omega | assumption | (refine OkS.sto ?_ (by omega); first | assumption | (refine OkS.sto ?_ (by omega); first | assumption | (refine OkS.sto ?_ (by omega); first | assumption | (refine OkS.sto ?_ (by omega); first | assumption | (refine OkS.sto ?_ (by omega); first | assumption | (refine OkS.sto ?_ (by omega); first | assumption)))))) | exact Pfx.refl _ | (apply Pfx.snoc; repeat (first | exact Pfx.refl _ | assumption | apply Pfx.snoc)) | with_unfolding_all exact of_eq_true (eq_true rfl) | (simp only [List.length_append, List.length_cons, List.length_nil]; omega)) only [↓wpre0, ↓wpre1, ↓reduceIte, Int.reduceToNat, Nat.reduceAdd, Nat.reduceMul, Nat.reduceEqDiff, wpost0, wpost1, wpost2, wpost3, wpost4, ite_self, ite_true, ite_false, if_true, if_false, blt_real, blt_imag, fr101, wrap_int, wrap_u8, iteP_yes, iteP_no, blt_real, blt_imag, sameFloat_r hX] | refine iteP_two (fun hc hd => ?_) (fun hc hd => ?_) | refine iteP_intro (fun hc => ?_) (fun hc => ?_))
theorem eqComplex64S_r (hX : XN X) {lo hi lo' hi' n n' : Nat} {zs : List (Nat × Nat)} {x y : Value} {h : Heap} (hI : VS lo hi 1 h x n (zs.map cpx)) (hJ : VS lo' hi' 1 h y n' (zs.map cpx)) (hn : n ≤ 1099511627776) : Ret Try.prog ro X 64 [x, y] h (.bool true) := by
  have e1 : n = zs.length := by have := hI.1; simp at this; omega
  have e2 : n' = zs.length := by have := hJ.1; simp at this; omega
  subst e2
  subst e1
  refine ret_of (callR_of (hX _ rfl) Try.func64 rfl (by kernel_rfl) (Nat.le_of_ble_eq_true rfl) ?_)
  (repeat' first | simp -dsimp (disch := first | omega | assumption | (refine OkS.sto ?_ (by omega); first | assumption | (refine OkS.sto ?_ (by omega); first | assumption | (refine OkS.sto ?_ (by omega); first | assumption | (refine OkS.sto ?_ (by omega); first | assumption | (refine OkS.sto ?_ (by omega); first | assumption | (refine OkS.sto ?_ (by omega); first | assumption)))))) | exact Pfx.refl _ | (apply Pfx.snoc; repeat (first | exact Pfx.refl _ | assumption | apply Pfx.snoc)) | with_unfolding_all exact of_eq_true (eq_true rfl) | (simp only [List.length_append, List.length_cons, List.length_nil]; omega)) only [↓wpre0, ↓wpre1, ↓reduceIte, Int.reduceToNat, Nat.reduceAdd, Nat.reduceMul, Nat.reduceEqDiff, wpost0, wpost1, wpost2, wpost3, wpost4, ite_self, ite_true, ite_false, if_true, if_false, xlen29, bin_neq, bin_lss, xiad29, xld86, xcv86_125, un_not, bin_add, fr64, wrap_int, wrap_u8, iteP_yes, iteP_no, hI.len Try.underlying29, hJ.len Try.underlying29] | refine iteP_two (fun hc hd => ?_) (fun hc hd => ?_) | refine iteP_intro (fun hc => ?_) (fun hc => ?_))
  refine loop_rounds (fun m e h' => ∃ i : Nat, m = zs.length - i ∧ i ≤ zs.length ∧ h' = h ∧ e 0 = x ∧ e 1 = y ∧ e 5 = .int .i64 i) _ ⟨0, rfl, ?_⟩ ?_
  · simp only [updO_at, updO_not, entry_at, List.getD_cons_zero, List.getD_cons_succ, ↓reduceIte, Nat.reduceEqDiff, true_and, and_true]
    exact ⟨by omega, rfl⟩
  · rintro m e h' ⟨i, hm, hle, rfl, g0, g1, g5⟩
    by_cases hin : i < zs.length
    · have hv : vth (zs.map cpx) i = .complex .f32 zs[i].1 zs[i].2 := vth_map hin
      have l1 := VS.ld1 (P := Try.prog) hI tsz86 tag86 (c := i) (by omega)
      have l2 := VS.ld1 (P := Try.prog) hJ tsz86 tag86 (c := i) (by omega)
      rw [hv] at l1 l2
      obtain ⟨u, hu⟩ := wide zs[i].1
      obtain ⟨w, hw⟩ := wide zs[i].2
      (repeat' first | simp -dsimp (disch := first | omega | assumption | (refine OkS.sto ?_ (by omega); first | assumption | (refine OkS.sto ?_ (by omega); first | assumption | (refine OkS.sto ?_ (by omega); first | assumption | (refine OkS.sto ?_ (by omega); first | assumption | (refine OkS.sto ?_ (by omega); first | assumption | (refine OkS.sto ?_ (by omega); first | assumption)))))) | exact Pfx.refl _ | (apply Pfx.snoc; repeat (first | exact Pfx.refl _ | assumption | apply Pfx.snoc)) | with_unfolding_all exact of_eq_true (eq_true rfl) | (simp only [List.length_append, List.length_cons, List.length_nil]; omega)) only [↓wpre0, ↓wpre1, ↓reduceIte, Int.reduceToNat, Nat.reduceAdd, Nat.reduceMul, Nat.reduceEqDiff, wpost0, wpost1, wpost2, wpost3, wpost4, ite_self, ite_true, ite_false, if_true, if_false, xlen29, bin_neq, bin_lss, xiad29, xld86, xcv86_125, un_not, bin_add, fr64, wrap_int, wrap_u8, iteP_yes, iteP_no, g0, g1, g5, hI.len Try.underlying29, hJ.len Try.underlying29, VS.iad hI Try.underlying29 tsz86, VS.iad hJ Try.underlying29 tsz86, Nat.mul_one, l1, l2, conv_cc Try.underlying86 Try.underlying125, hu, hw, sameComplex_r hX] | refine iteP_two (fun hc hd => ?_) (fun hc hd => ?_) | refine iteP_intro (fun hc => ?_) (fun hc => ?_))
      exact ⟨_, by omega, i + 1, rfl, by omega, by simp⟩
    · have : i = zs.length := by omega
      subst this
      (repeat' first | simp -dsimp (disch := first | omega | assumption | (refine OkS.sto ?_ (by omega); first | assumption | (refine OkS.sto ?_ (by omega); first | assumption | (refine OkS.sto ?_ (by omega); first | assumption | (refine OkS.sto ?_ (by omega); first | assumption | (refine OkS.sto ?_ (by omega); first | assumption | (refine OkS.sto ?_ (by omega); first | assumption)))))) | exact Pfx.refl _ | (apply Pfx.snoc; repeat (first | exact Pfx.refl _ | assumption | apply Pfx.snoc)) | with_unfolding_all exact of_eq_true (eq_true rfl) | (simp only [List.length_append, List.length_cons, List.length_nil]; omega)) only [↓wpre0, ↓wpre1, ↓reduceIte, Int.reduceToNat, Nat.reduceAdd, Nat.reduceMul, Nat.reduceEqDiff, wpost0, wpost1, wpost2, wpost3, wpost4, ite_self, ite_true, ite_false, if_true, if_false, xlen29, bin_neq, bin_lss, xiad29, xld86, xcv86_125, un_not, bin_add, fr64, wrap_int, wrap_u8, iteP_yes, iteP_no, g0, g1, g5, hI.len Try.underlying29, hJ.len Try.underlying29] | refine iteP_two (fun hc hd => ?_) (fun hc hd => ?_) | refine iteP_intro (fun hc => ?_) (fun hc => ?_))
theorem markComplex64S_c (hX : XN X) {lo hi n : Nat} {L : List Value} {x : Value} {h : Heap} {c : Int} (hI : VS lo hi 1 h x n L) (hn : n ≤ 1000) (hro : ro ≤ lo) (hc0 : 0 ≤ c) (hc1 : c + n ≤ 2048) :
    CallR Try.prog ro X 67 [x, .int .i64 c] h (fun r h' => r = .int .i64 (c + (n : Int)) ∧ VS lo hi 1 h' x n (mkc c n L) ∧ Rng lo hi h h' ∧ (∀ t, VG lo t 1 h x n L → VG lo t 1 h' x n (mkc c n L))) := by
  have hll : L.length = n := by have := hI.1; omega
  refine callR_of (hX _ rfl) Try.func67 rfl (by kernel_rfl) (Nat.le_of_ble_eq_true rfl) ?_
  (repeat' first | simp -dsimp (disch := first | omega | assumption | (refine OkS.sto ?_ (by omega); first | assumption | (refine OkS.sto ?_ (by omega); first | assumption | (refine OkS.sto ?_ (by omega); first | assumption | (refine OkS.sto ?_ (by omega); first | assumption | (refine OkS.sto ?_ (by omega); first | assumption | (refine OkS.sto ?_ (by omega); first | assumption)))))) | exact Pfx.refl _ | (apply Pfx.snoc; repeat (first | exact Pfx.refl _ | assumption | apply Pfx.snoc)) | with_unfolding_all exact of_eq_true (eq_true rfl) | (simp only [List.length_append, List.length_cons, List.length_nil]; omega)) only [↓wpre0, ↓wpre1, ↓reduceIte, Int.reduceToNat, Nat.reduceAdd, Nat.reduceMul, Nat.reduceEqDiff, wpost0, wpost1, wpost2, wpost3, wpost4, ite_self, ite_true, ite_false, if_true, if_false, xlen29, bin_lss, xcv3_126, blt_cpx, xcv125_86, xiad29, xst86, bin_add, fr67, wrap_int, wrap_u8, iteP_yes, iteP_no] | refine iteP_two (fun hc hd => ?_) (fun hc hd => ?_) | refine iteP_intro (fun hc => ?_) (fun hc => ?_))
  refine loop_rounds (fun m e h' => ∃ i : Nat, m = n - i ∧ i ≤ n ∧ VS lo hi 1 h' x n (mkc c i L) ∧ Rng lo hi h h' ∧ (∀ t, VG lo t 1 h x n L → VG lo t 1 h' x n (mkc c i L)) ∧ e 0 = x ∧ e 1 = .int .i64 (c + (i : Int)) ∧ e 5 = .int .i64 i) _ ⟨0, rfl, ?_⟩ ?_
  · simp only [updO_at, updO_not, entry_at, List.getD_cons_zero, List.getD_cons_succ, ↓reduceIte, Nat.reduceEqDiff, true_and, and_true]
    refine ⟨by omega, ?_, .refl _ _ _, ?_, by simp, rfl⟩
    · rw [mkc_zero]; exact hI
    · intro t g; rw [mkc_zero]; exact g
  · rintro m e h' ⟨i, hm, hle, hI', ho, hg, g0, g1, g5⟩
    have hlen := ho.1
    by_cases hin : i < n
    · have hk := mk_at (c := c + (i : Int)) (by omega) (by omega)
      have hst := hI'.stv (P := Try.prog) (ro := ro) (c := i) (v := .complex .f32 (mkb (c + (i : Int))) 1065353216) tsz86 hro rfl rfl (by omega)
      (repeat' first | simp -dsimp (disch := first | omega | assumption | (refine OkS.sto ?_ (by omega); first | assumption | (refine OkS.sto ?_ (by omega); first | assumption | (refine OkS.sto ?_ (by omega); first | assumption | (refine OkS.sto ?_ (by omega); first | assumption | (refine OkS.sto ?_ (by omega); first | assumption | (refine OkS.sto ?_ (by omega); first | assumption)))))) | exact Pfx.refl _ | (apply Pfx.snoc; repeat (first | exact Pfx.refl _ | assumption | apply Pfx.snoc)) | with_unfolding_all exact of_eq_true (eq_true rfl) | (simp only [List.length_append, List.length_cons, List.length_nil]; omega)) only [↓wpre0, ↓wpre1, ↓reduceIte, Int.reduceToNat, Nat.reduceAdd, Nat.reduceMul, Nat.reduceEqDiff, wpost0, wpost1, wpost2, wpost3, wpost4, ite_self, ite_true, ite_false, if_true, if_false, xlen29, bin_lss, xcv3_126, blt_cpx, xcv125_86, xiad29, xst86, bin_add, fr67, wrap_int, wrap_u8, iteP_yes, iteP_no, g0, g1, g5, hI'.len Try.underlying29, VS.iad hI' Try.underlying29 tsz86, Nat.mul_one, conv_if Try.underlying3 Try.underlying126, conv_cc Try.underlying125 Try.underlying86, blt_cpx, hk.1, mk_one, hst] | refine iteP_two (fun hc hd => ?_) (fun hc hd => ?_) | refine iteP_intro (fun hc => ?_) (fun hc => ?_))
      refine ⟨_, by omega, i + 1, rfl, by omega, ?_, ho.trans (hI'.rsto (by omega) _ _), ?_, by congr 1; omega, by simp⟩
      · have := hI'.sto (c := i) (by omega) (cpm (c + (i : Int)))
        rw [mkc_set (by omega)] at this
        exact this
      · intro t g
        have := (hg t g).sto (c := i) (by omega) (cpm (c + (i : Int)))
        rw [mkc_set (by omega)] at this
        exact this
    · have : i = n := by omega
      subst this
      (repeat' first | simp -dsimp (disch := first | omega | assumption | (refine OkS.sto ?_ (by omega); first | assumption | (refine OkS.sto ?_ (by omega); first | assumption | (refine OkS.sto ?_ (by omega); first | assumption | (refine OkS.sto ?_ (by omega); first | assumption | (refine OkS.sto ?_ (by omega); first | assumption | (refine OkS.sto ?_ (by omega); first | assumption)))))) | exact Pfx.refl _ | (apply Pfx.snoc; repeat (first | exact Pfx.refl _ | assumption | apply Pfx.snoc)) | with_unfolding_all exact of_eq_true (eq_true rfl) | (simp only [List.length_append, List.length_cons, List.length_nil]; omega)) only [↓wpre0, ↓wpre1, ↓reduceIte, Int.reduceToNat, Nat.reduceAdd, Nat.reduceMul, Nat.reduceEqDiff, wpost0, wpost1, wpost2, wpost3, wpost4, ite_self, ite_true, ite_false, if_true, if_false, xlen29, bin_lss, xcv3_126, blt_cpx, xcv125_86, xiad29, xst86, bin_add, fr67, wrap_int, wrap_u8, iteP_yes, iteP_no, g0, g1, g5, hI'.len Try.underlying29, endH_len hlen] | refine iteP_two (fun hc hd => ?_) (fun hc hd => ?_) | refine iteP_intro (fun hc => ?_) (fun hc => ?_))
      exact ⟨hI', ho, hg⟩
theorem heldComplex64S_r (hX : XN X) {lo hi n : Nat} {L : List Value} {x : Value} {h : Heap} {c : Int} (hI : VS lo hi 1 h x n L) (hM : ∀ i, i < n → vth L i = cpm (c + (i : Int))) (hn : n ≤ 1000) (hc0 : 0 ≤ c) (hc1 : c + n ≤ 2048) :
    Ret Try.prog ro X 70 [x, .int .i64 c] h (.int .i64 (c + (n : Int))) := by
  refine ret_of (callR_of (hX _ rfl) Try.func70 rfl (by kernel_rfl) (Nat.le_of_ble_eq_true rfl) ?_)
  (repeat' first | simp -dsimp (disch := first | omega | assumption | (refine OkS.sto ?_ (by omega); first | assumption | (refine OkS.sto ?_ (by omega); first | assumption | (refine OkS.sto ?_ (by omega); first | assumption | (refine OkS.sto ?_ (by omega); first | assumption | (refine OkS.sto ?_ (by omega); first | assumption | (refine OkS.sto ?_ (by omega); first | assumption)))))) | exact Pfx.refl _ | (apply Pfx.snoc; repeat (first | exact Pfx.refl _ | assumption | apply Pfx.snoc)) | with_unfolding_all exact of_eq_true (eq_true rfl) | (simp only [List.length_append, List.length_cons, List.length_nil]; omega)) only [↓wpre0, ↓wpre1, ↓reduceIte, Int.reduceToNat, Nat.reduceAdd, Nat.reduceMul, Nat.reduceEqDiff, wpost0, wpost1, wpost2, wpost3, wpost4, ite_self, ite_true, ite_false, if_true, if_false, xlen29, bin_lss, xiad29, xld86, xcv3_126, blt_cpx, xcv125_86, bin_cneq, bin_add, fr70, wrap_int, wrap_u8, iteP_yes, iteP_no] | refine iteP_two (fun hc hd => ?_) (fun hc hd => ?_) | refine iteP_intro (fun hc => ?_) (fun hc => ?_))
  refine loop_rounds (fun m e h' => ∃ i : Nat, m = n - i ∧ i ≤ n ∧ h' = h ∧ e 0 = x ∧ e 1 = .int .i64 (c + (i : Int)) ∧ e 5 = .int .i64 i) _ ⟨0, rfl, ?_⟩ ?_
  · simp only [updO_at, updO_not, entry_at, List.getD_cons_zero, List.getD_cons_succ, ↓reduceIte, Nat.reduceEqDiff, true_and, and_true]
    exact ⟨by omega, by simp⟩
  · rintro m e h' ⟨i, hm, hle, rfl, g0, g1, g5⟩
    by_cases hin : i < n
    · have hk := mk_at (c := c + (i : Int)) (by omega) (by omega)
      have hld := VS.ld1 (P := Try.prog) hI tsz86 tag86 (c := i) (by omega)
      rw [hM i hin, cpm] at hld
      (repeat' first | simp -dsimp (disch := first | omega | assumption | (refine OkS.sto ?_ (by omega); first | assumption | (refine OkS.sto ?_ (by omega); first | assumption | (refine OkS.sto ?_ (by omega); first | assumption | (refine OkS.sto ?_ (by omega); first | assumption | (refine OkS.sto ?_ (by omega); first | assumption | (refine OkS.sto ?_ (by omega); first | assumption)))))) | exact Pfx.refl _ | (apply Pfx.snoc; repeat (first | exact Pfx.refl _ | assumption | apply Pfx.snoc)) | with_unfolding_all exact of_eq_true (eq_true rfl) | (simp only [List.length_append, List.length_cons, List.length_nil]; omega)) only [↓wpre0, ↓wpre1, ↓reduceIte, Int.reduceToNat, Nat.reduceAdd, Nat.reduceMul, Nat.reduceEqDiff, wpost0, wpost1, wpost2, wpost3, wpost4, ite_self, ite_true, ite_false, if_true, if_false, xlen29, bin_lss, xiad29, xld86, xcv3_126, blt_cpx, xcv125_86, bin_cneq, bin_add, fr70, wrap_int, wrap_u8, iteP_yes, iteP_no, g0, g1, g5, hI.len Try.underlying29, VS.iad hI Try.underlying29 tsz86, Nat.mul_one, hld, conv_if Try.underlying3 Try.underlying126, conv_cc Try.underlying125 Try.underlying86, blt_cpx, hk.1, mk_one, bin_cneq, order_self, hk.2, mk_nan1] | refine iteP_two (fun hc hd => ?_) (fun hc hd => ?_) | refine iteP_intro (fun hc => ?_) (fun hc => ?_))
      refine ⟨_, by omega, i + 1, rfl, by omega, by congr 1; omega, by simp⟩
    · have : i = n := by omega
      subst this
      (repeat' first | simp -dsimp (disch := first | omega | assumption | (refine OkS.sto ?_ (by omega); first | assumption | (refine OkS.sto ?_ (by omega); first | assumption | (refine OkS.sto ?_ (by omega); first | assumption | (refine OkS.sto ?_ (by omega); first | assumption | (refine OkS.sto ?_ (by omega); first | assumption | (refine OkS.sto ?_ (by omega); first | assumption)))))) | exact Pfx.refl _ | (apply Pfx.snoc; repeat (first | exact Pfx.refl _ | assumption | apply Pfx.snoc)) | with_unfolding_all exact of_eq_true (eq_true rfl) | (simp only [List.length_append, List.length_cons, List.length_nil]; omega)) only [↓wpre0, ↓wpre1, ↓reduceIte, Int.reduceToNat, Nat.reduceAdd, Nat.reduceMul, Nat.reduceEqDiff, wpost0, wpost1, wpost2, wpost3, wpost4, ite_self, ite_true, ite_false, if_true, if_false, xlen29, bin_lss, xiad29, xld86, xcv3_126, blt_cpx, xcv125_86, bin_cneq, bin_add, fr70, wrap_int, wrap_u8, iteP_yes, iteP_no, g0, g1, g5, hI.len Try.underlying29] | refine iteP_two (fun hc hd => ?_) (fun hc hd => ?_) | refine iteP_intro (fun hc => ?_) (fun hc => ?_))
end Go.Proofs.Ytbakaopgdcojfaa.Sim
