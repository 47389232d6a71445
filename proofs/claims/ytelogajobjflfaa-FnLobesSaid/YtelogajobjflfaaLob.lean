/- Cuts of small numbers: runs, lobes, the strong ones; how a cut is drawn. Lemmas only; no condition. -/
import Derived.Test.YtelogajobjflfaaLoa
import Derived.Test.YtelogajobjflfaaSrt
set_option linter.unusedSimpArgs false
set_option linter.unusedVariables false
set_option maxRecDepth 8000
namespace Go.Proofs.Ytelogajobjflfaa.Sim
open Go Go.RowKit
variable {ro : Nat} {X : Ext} {lo hi : Nat} {x : Value} {h : Heap} {L : List Nat}
def natI (i : Nat) : Int := (i : Int)
/-- The first places of the runs of a cut that are told. -/
def runL (far : Nat → Nat → Bool) (L : List Nat) : List Nat := rnF (cn L) far L.length (L.length - 0) 0
set_option maxHeartbeats 4000000 in
theorem runs_c (hX : XN X) (hC : CUT lo hi h x L) (far : Nat → Nat → Bool) (f : FuncId) (hro : ro ≤ h.length) (hf : ∀ (H : Heap) (a b : Nat), Ret Try.prog ro X f [.float .f32 (fS (cn L a)), .float .f32 (fS (cn L b))] H (.bool (far (cn L a) (cn L b)))) :
    CallR Try.prog ro X 113 [x, .func (.func f) ⟨[]⟩ ⟨[]⟩] h (fun r h' => Pfx h h' ∧ VG h.length 2 1 h' r (runL far L).length (vints ((runL far L).map natI))) := by
  have hn := hC.n
  have hL := hC.s
  refine callR_of (hX _ rfl) Try.func113 rfl (by kernel_rfl) (Nat.le_of_ble_eq_true rfl) ?_
  (repeat' first | simp -dsimp (disch := first | omega | assumption | (refine OkS.sto ?_ (by omega); first | assumption | (refine OkS.sto ?_ (by omega); first | assumption | (refine OkS.sto ?_ (by omega); first | assumption | (refine OkS.sto ?_ (by omega); first | assumption | (refine OkS.sto ?_ (by omega); first | assumption | (refine OkS.sto ?_ (by omega); first | assumption)))))) | exact Pfx.refl _ | (apply Pfx.snoc; repeat (first | exact Pfx.refl _ | assumption | apply Pfx.snoc)) | with_unfolding_all exact of_eq_true (eq_true rfl) | (simp only [List.length_append, List.length_cons, List.length_nil]; omega)) only [↓wpre0, ↓wpre1, ↓reduceIte, Int.reduceToNat, Nat.reduceAdd, Nat.reduceMul, Nat.reduceEqDiff, wpost0, wpost1, wpost2, wpost3, wpost4, ite_self, ite_true, ite_false, if_true, if_false, xbls32_0, xbls32_1, xlen24, bin_lss, bin_add, xiad24, xld29, bin_feql, bin_eql, bin_sub, fr113, wrap_int, wrap_u8, iteP_yes, iteP_no] | refine iteP_two (fun hc hd => ?_) (fun hc hd => ?_) | refine iteP_intro (fun hc => ?_) (fun hc => ?_))
  refine loop_rounds (fun m e h' => ∃ (i : Nat) (y : Value) (A : List Nat), m = L.length - i ∧ i ≤ L.length ∧ e 0 = x ∧ e 1 = .func (.func f) ⟨[]⟩ ⟨[]⟩ ∧ e 5 = y ∧ e 6 = .int .i64 i ∧ A.length ≤ i ∧ runL far L = A ++ rnF (cn L) far L.length (L.length - i) i ∧ Pfx h h' ∧ VG h.length 2 1 h' y A.length (vints (A.map natI))) _ ⟨0, .slice (some ⟨h.length, 0, none⟩) 0 0, [], rfl, ?_⟩ ?_
  · simp only [updO_at, updO_not, entry_at, List.getD_cons_zero, List.getD_cons_succ, ↓reduceIte, Nat.reduceEqDiff, true_and, and_true]
    have q := (Pfx.refl h).snoc (C := ⟨2, []⟩)
    have q2 := vg_new (lo := h.length) (t := 2) (k := 1) h (Nat.le_refl _)
    exact ⟨by omega, rfl, Nat.le_refl _, rfl, q, q2⟩
  · rintro m e h' ⟨i, y, A, hm, hle, g0, g1, g5, g6, hA, hR, hp, hY⟩
    have hl := hp.len
    have hC' := hC.pre hp
    have hks := toNat_s i
    by_cases hin : i < L.length
    · (repeat' first | simp -dsimp (disch := first | omega | assumption | (refine OkS.sto ?_ (by omega); first | assumption | (refine OkS.sto ?_ (by omega); first | assumption | (refine OkS.sto ?_ (by omega); first | assumption | (refine OkS.sto ?_ (by omega); first | assumption | (refine OkS.sto ?_ (by omega); first | assumption | (refine OkS.sto ?_ (by omega); first | assumption)))))) | exact Pfx.refl _ | (apply Pfx.snoc; repeat (first | exact Pfx.refl _ | assumption | apply Pfx.snoc)) | with_unfolding_all exact of_eq_true (eq_true rfl) | (simp only [List.length_append, List.length_cons, List.length_nil]; omega)) only [↓wpre0, ↓wpre1, ↓reduceIte, Int.reduceToNat, Nat.reduceAdd, Nat.reduceMul, Nat.reduceEqDiff, wpost0, wpost1, wpost2, wpost3, wpost4, ite_self, ite_true, ite_false, if_true, if_false, xbls32_0, xbls32_1, xlen24, bin_lss, bin_add, xiad24, xld29, bin_feql, bin_eql, bin_sub, fr113, wrap_int, wrap_u8, iteP_yes, iteP_no, g0, g1, g5, g6, hC'.len, hks] | refine iteP_two (fun hc hd => ?_) (fun hc hd => ?_) | refine iteP_intro (fun hc => ?_) (fun hc => ?_))
      refine loop_exit 2 (fun e h2 => h2 = h' ∧ e 0 = x ∧ e 1 = .func (.func f) ⟨[]⟩ ⟨[]⟩ ∧ e 5 = y ∧ e 6 = .int .i64 i ∧ e 7 = .int .i64 (enR (cn L) i (L.length - (i + 1)) (i + 1) : Nat)) ?_ ?_
      · refine loop_rounds (fun m e h2 => ∃ k : Nat, m = L.length - k ∧ i + 1 ≤ k ∧ k ≤ L.length ∧ h2 = h' ∧ e 0 = x ∧ e 1 = .func (.func f) ⟨[]⟩ ⟨[]⟩ ∧ e 5 = y ∧ e 6 = .int .i64 i ∧ e 7 = .int .i64 k ∧ enR (cn L) i (L.length - (i + 1)) (i + 1) = enR (cn L) i (L.length - k) k) _ ⟨i + 1, rfl, ?_⟩ ?_
        · simp only [updO_at, updO_not, entry_at, List.getD_cons_zero, List.getD_cons_succ, ↓reduceIte, Nat.reduceEqDiff, true_and, and_true]
          (repeat' (first | assumption | rfl | omega | refine And.intro ?_ ?_))
        · rintro m e h2 ⟨k, hm, hik, hk, rfl, g0, g1, g5, g6, g7, hd⟩
          have hkk := toNat_s k
          by_cases hkn : k < L.length
          · obtain ⟨f', hf'⟩ : ∃ f', L.length - k = f' + 1 := ⟨L.length - (k + 1), by omega⟩
            by_cases hq : cn L k = cn L i
            · (repeat' first | simp -dsimp (disch := first | omega | assumption | (refine OkS.sto ?_ (by omega); first | assumption | (refine OkS.sto ?_ (by omega); first | assumption | (refine OkS.sto ?_ (by omega); first | assumption | (refine OkS.sto ?_ (by omega); first | assumption | (refine OkS.sto ?_ (by omega); first | assumption | (refine OkS.sto ?_ (by omega); first | assumption)))))) | exact Pfx.refl _ | (apply Pfx.snoc; repeat (first | exact Pfx.refl _ | assumption | apply Pfx.snoc)) | with_unfolding_all exact of_eq_true (eq_true rfl) | (simp only [List.length_append, List.length_cons, List.length_nil]; omega)) only [↓wpre0, ↓wpre1, ↓reduceIte, Int.reduceToNat, Nat.reduceAdd, Nat.reduceMul, Nat.reduceEqDiff, wpost0, wpost1, wpost2, wpost3, wpost4, ite_self, ite_true, ite_false, if_true, if_false, xbls32_0, xbls32_1, xlen24, bin_lss, bin_add, xiad24, xld29, bin_feql, bin_eql, bin_sub, fr113, wrap_int, wrap_u8, iteP_yes, iteP_no, g0, g1, g5, g6, g7, hC'.len, hC'.iad, hC'.ld, eq_cn hL, hkk] | refine iteP_two (fun hc hd => ?_) (fun hc hd => ?_) | refine iteP_intro (fun hc => ?_) (fun hc => ?_))
              refine ⟨f', by omega, k + 1, ?_⟩
              have : enR (cn L) i (L.length - (i + 1)) (i + 1) = enR (cn L) i (L.length - (k + 1)) (k + 1) := by rw [hd, hf', enR_yes hq, show L.length - (k + 1) = f' by omega]
              (repeat' (first | assumption | rfl | omega | refine And.intro ?_ ?_))
            · (repeat' first | simp -dsimp (disch := first | omega | assumption | (refine OkS.sto ?_ (by omega); first | assumption | (refine OkS.sto ?_ (by omega); first | assumption | (refine OkS.sto ?_ (by omega); first | assumption | (refine OkS.sto ?_ (by omega); first | assumption | (refine OkS.sto ?_ (by omega); first | assumption | (refine OkS.sto ?_ (by omega); first | assumption)))))) | exact Pfx.refl _ | (apply Pfx.snoc; repeat (first | exact Pfx.refl _ | assumption | apply Pfx.snoc)) | with_unfolding_all exact of_eq_true (eq_true rfl) | (simp only [List.length_append, List.length_cons, List.length_nil]; omega)) only [↓wpre0, ↓wpre1, ↓reduceIte, Int.reduceToNat, Nat.reduceAdd, Nat.reduceMul, Nat.reduceEqDiff, wpost0, wpost1, wpost2, wpost3, wpost4, ite_self, ite_true, ite_false, if_true, if_false, xbls32_0, xbls32_1, xlen24, bin_lss, bin_add, xiad24, xld29, bin_feql, bin_eql, bin_sub, fr113, wrap_int, wrap_u8, iteP_yes, iteP_no, g0, g1, g5, g6, g7, hC'.len, hC'.iad, hC'.ld, eq_cn hL, hkk] | refine iteP_two (fun hc hd => ?_) (fun hc hd => ?_) | refine iteP_intro (fun hc => ?_) (fun hc => ?_))
              rw [hd, hf', enR_no hq]
              (repeat' (first | assumption | rfl | omega | refine And.intro ?_ ?_))
          · have hf' : L.length - k = 0 := by omega
            (repeat' first | simp -dsimp (disch := first | omega | assumption | (refine OkS.sto ?_ (by omega); first | assumption | (refine OkS.sto ?_ (by omega); first | assumption | (refine OkS.sto ?_ (by omega); first | assumption | (refine OkS.sto ?_ (by omega); first | assumption | (refine OkS.sto ?_ (by omega); first | assumption | (refine OkS.sto ?_ (by omega); first | assumption)))))) | exact Pfx.refl _ | (apply Pfx.snoc; repeat (first | exact Pfx.refl _ | assumption | apply Pfx.snoc)) | with_unfolding_all exact of_eq_true (eq_true rfl) | (simp only [List.length_append, List.length_cons, List.length_nil]; omega)) only [↓wpre0, ↓wpre1, ↓reduceIte, Int.reduceToNat, Nat.reduceAdd, Nat.reduceMul, Nat.reduceEqDiff, wpost0, wpost1, wpost2, wpost3, wpost4, ite_self, ite_true, ite_false, if_true, if_false, xbls32_0, xbls32_1, xlen24, bin_lss, bin_add, xiad24, xld29, bin_feql, bin_eql, bin_sub, fr113, wrap_int, wrap_u8, iteP_yes, iteP_no, g0, g1, g5, g6, g7, hC'.len, hkk] | refine iteP_two (fun hc hd => ?_) (fun hc hd => ?_) | refine iteP_intro (fun hc => ?_) (fun hc => ?_))
            rw [hd, hf']
            (repeat' (first | assumption | rfl | omega | refine And.intro ?_ ?_))
      · rintro e h2 ⟨rfl, g0, g1, g5, g6, g7⟩
        have hE1 := le_enR (cn L) i (L.length - (i + 1)) (i + 1)
        have hE2 := enR_le (cn L) i (L.length - (i + 1)) (i + 1)
        have hstep := rnF_step (c := cn L) (far := far) (n := L.length) hin
        generalize hEe : enR (cn L) i (L.length - (i + 1)) (i + 1) = E at *
        obtain ⟨H, ap, vg, old, hlen⟩ := acc1 (P := Try.prog) (ro := ro) (T := 32) (h := h2) (v := .int .i64 i) tel32 tsz2 tby2 tze2 (.inl hY) hro hl rfl (by omega) (by omega)
        have vg' : VG h.length 2 1 H (.slice (some ⟨h2.length + 1, 0, none⟩) (A.length + 1) (A.length + 1 + 1)) (A ++ [i]).length (vints ((A ++ [i]).map natI)) := by
          rw [List.map_append, vints_app, List.length_append]
          exact vg
        have pfH := old.1 h hp (Nat.le_refl _)
        have eqi := eqs_cn hL i
        have hyes : isR (cn L) far L.length i E = true → runL far L = (A ++ [i]) ++ rnF (cn L) far L.length (L.length - E) E := fun q => by rw [hR, hstep, if_pos q, List.append_assoc]
        have hno : isR (cn L) far L.length i E = false → runL far L = A ++ rnF (cn L) far L.length (L.length - E) E := fun q => by rw [hR, hstep, if_neg (by rw [q]; simp), List.nil_append]
        have hEi : i < E := by omega
        by_cases hz : i = 0
        · by_cases hEn : E < L.length
          · cases hB : far (cn L E) (cn L i) with
            | true =>
              have hy := hyes (by rw [isR, hB]; simp [hz])
              (repeat' first | simp -dsimp (disch := first | omega | assumption | (refine OkS.sto ?_ (by omega); first | assumption | (refine OkS.sto ?_ (by omega); first | assumption | (refine OkS.sto ?_ (by omega); first | assumption | (refine OkS.sto ?_ (by omega); first | assumption | (refine OkS.sto ?_ (by omega); first | assumption | (refine OkS.sto ?_ (by omega); first | assumption)))))) | exact Pfx.refl _ | (apply Pfx.snoc; repeat (first | exact Pfx.refl _ | assumption | apply Pfx.snoc)) | with_unfolding_all exact of_eq_true (eq_true rfl) | (simp only [List.length_append, List.length_cons, List.length_nil]; omega)) only [↓wpre0, ↓wpre1, ↓reduceIte, Int.reduceToNat, Nat.reduceAdd, Nat.reduceMul, Nat.reduceEqDiff, wpost0, wpost1, wpost2, wpost3, wpost4, ite_self, ite_true, ite_false, if_true, if_false, xbls32_0, xbls32_1, xlen24, bin_lss, bin_add, xiad24, xld29, bin_feql, bin_eql, bin_sub, fr113, wrap_int, wrap_u8, iteP_yes, iteP_no, g0, g1, g5, g6, g7, hC'.len, hC'.iad, hC'.ld, eqi, hf, hB, ap] | refine iteP_two (fun hc hd => ?_) (fun hc hd => ?_) | refine iteP_intro (fun hc => ?_) (fun hc => ?_))
              refine ⟨L.length - E, by omega, E, .slice (some ⟨h2.length + 1, 0, none⟩) (A.length + 1) (A.length + 1 + 1), A ++ [i], ?_⟩
              (repeat' (first | assumption | rfl | omega | simp; omega | refine And.intro ?_ ?_))
            | false =>
              have hy := hno (by rw [isR, hB]; simp; omega)
              (repeat' first | simp -dsimp (disch := first | omega | assumption | (refine OkS.sto ?_ (by omega); first | assumption | (refine OkS.sto ?_ (by omega); first | assumption | (refine OkS.sto ?_ (by omega); first | assumption | (refine OkS.sto ?_ (by omega); first | assumption | (refine OkS.sto ?_ (by omega); first | assumption | (refine OkS.sto ?_ (by omega); first | assumption)))))) | exact Pfx.refl _ | (apply Pfx.snoc; repeat (first | exact Pfx.refl _ | assumption | apply Pfx.snoc)) | with_unfolding_all exact of_eq_true (eq_true rfl) | (simp only [List.length_append, List.length_cons, List.length_nil]; omega)) only [↓wpre0, ↓wpre1, ↓reduceIte, Int.reduceToNat, Nat.reduceAdd, Nat.reduceMul, Nat.reduceEqDiff, wpost0, wpost1, wpost2, wpost3, wpost4, ite_self, ite_true, ite_false, if_true, if_false, xbls32_0, xbls32_1, xlen24, bin_lss, bin_add, xiad24, xld29, bin_feql, bin_eql, bin_sub, fr113, wrap_int, wrap_u8, iteP_yes, iteP_no, g0, g1, g5, g6, g7, hC'.len, hC'.iad, hC'.ld, eqi, hf, hB, ap] | refine iteP_two (fun hc hd => ?_) (fun hc hd => ?_) | refine iteP_intro (fun hc => ?_) (fun hc => ?_))
              refine ⟨L.length - E, by omega, E, y, A, ?_⟩
              (repeat' (first | assumption | rfl | omega | refine And.intro ?_ ?_))
          · have hE : E = L.length := by omega
            subst hE
            have hy := hyes (by simp [isR, hz])
            (repeat' first | simp -dsimp (disch := first | omega | assumption | (refine OkS.sto ?_ (by omega); first | assumption | (refine OkS.sto ?_ (by omega); first | assumption | (refine OkS.sto ?_ (by omega); first | assumption | (refine OkS.sto ?_ (by omega); first | assumption | (refine OkS.sto ?_ (by omega); first | assumption | (refine OkS.sto ?_ (by omega); first | assumption)))))) | exact Pfx.refl _ | (apply Pfx.snoc; repeat (first | exact Pfx.refl _ | assumption | apply Pfx.snoc)) | with_unfolding_all exact of_eq_true (eq_true rfl) | (simp only [List.length_append, List.length_cons, List.length_nil]; omega)) only [↓wpre0, ↓wpre1, ↓reduceIte, Int.reduceToNat, Nat.reduceAdd, Nat.reduceMul, Nat.reduceEqDiff, wpost0, wpost1, wpost2, wpost3, wpost4, ite_self, ite_true, ite_false, if_true, if_false, xbls32_0, xbls32_1, xlen24, bin_lss, bin_add, xiad24, xld29, bin_feql, bin_eql, bin_sub, fr113, wrap_int, wrap_u8, iteP_yes, iteP_no, g0, g1, g5, g6, g7, hC'.len, hC'.iad, hC'.ld, eqi, hf, ap] | refine iteP_two (fun hc hd => ?_) (fun hc hd => ?_) | refine iteP_intro (fun hc => ?_) (fun hc => ?_))
            refine ⟨0, by omega, L.length, .slice (some ⟨h2.length + 1, 0, none⟩) (A.length + 1) (A.length + 1 + 1), A ++ [i], ?_⟩
            (repeat' (first | assumption | rfl | omega | simp; omega | refine And.intro ?_ ?_))
        · obtain ⟨i, rfl⟩ : ∃ j, i = j + 1 := ⟨i - 1, by omega⟩
          have hkp := toNat_p i
          cases hA1 : far (cn L i) (cn L (i + 1)) with
          | false =>
            have hy := hno (by simp [isR, hA1])
            (repeat' first | simp -dsimp (disch := first | omega | assumption | (refine OkS.sto ?_ (by omega); first | assumption | (refine OkS.sto ?_ (by omega); first | assumption | (refine OkS.sto ?_ (by omega); first | assumption | (refine OkS.sto ?_ (by omega); first | assumption | (refine OkS.sto ?_ (by omega); first | assumption | (refine OkS.sto ?_ (by omega); first | assumption)))))) | exact Pfx.refl _ | (apply Pfx.snoc; repeat (first | exact Pfx.refl _ | assumption | apply Pfx.snoc)) | with_unfolding_all exact of_eq_true (eq_true rfl) | (simp only [List.length_append, List.length_cons, List.length_nil]; omega)) only [↓wpre0, ↓wpre1, ↓reduceIte, Int.reduceToNat, Nat.reduceAdd, Nat.reduceMul, Nat.reduceEqDiff, wpost0, wpost1, wpost2, wpost3, wpost4, ite_self, ite_true, ite_false, if_true, if_false, xbls32_0, xbls32_1, xlen24, bin_lss, bin_add, xiad24, xld29, bin_feql, bin_eql, bin_sub, fr113, wrap_int, wrap_u8, iteP_yes, iteP_no, g0, g1, g5, g6, g7, hkp, hC'.len, hC'.iad, hC'.ld, eqi, hf, hA1, ap] | refine iteP_two (fun hc hd => ?_) (fun hc hd => ?_) | refine iteP_intro (fun hc => ?_) (fun hc => ?_))
            refine ⟨L.length - E, by omega, E, y, A, ?_⟩
            (repeat' (first | assumption | rfl | omega | refine And.intro ?_ ?_))
          | true =>
            by_cases hEn : E < L.length
            · cases hB : far (cn L E) (cn L (i + 1)) with
              | true =>
                have hy := hyes (by simp [isR, hA1, hB])
                (repeat' first | simp -dsimp (disch := first | omega | assumption | (refine OkS.sto ?_ (by omega); first | assumption | (refine OkS.sto ?_ (by omega); first | assumption | (refine OkS.sto ?_ (by omega); first | assumption | (refine OkS.sto ?_ (by omega); first | assumption | (refine OkS.sto ?_ (by omega); first | assumption | (refine OkS.sto ?_ (by omega); first | assumption)))))) | exact Pfx.refl _ | (apply Pfx.snoc; repeat (first | exact Pfx.refl _ | assumption | apply Pfx.snoc)) | with_unfolding_all exact of_eq_true (eq_true rfl) | (simp only [List.length_append, List.length_cons, List.length_nil]; omega)) only [↓wpre0, ↓wpre1, ↓reduceIte, Int.reduceToNat, Nat.reduceAdd, Nat.reduceMul, Nat.reduceEqDiff, wpost0, wpost1, wpost2, wpost3, wpost4, ite_self, ite_true, ite_false, if_true, if_false, xbls32_0, xbls32_1, xlen24, bin_lss, bin_add, xiad24, xld29, bin_feql, bin_eql, bin_sub, fr113, wrap_int, wrap_u8, iteP_yes, iteP_no, g0, g1, g5, g6, g7, hkp, hC'.len, hC'.iad, hC'.ld, eqi, hf, hA1, hB, ap] | refine iteP_two (fun hc hd => ?_) (fun hc hd => ?_) | refine iteP_intro (fun hc => ?_) (fun hc => ?_))
                refine ⟨L.length - E, by omega, E, .slice (some ⟨h2.length + 1, 0, none⟩) (A.length + 1) (A.length + 1 + 1), A ++ [i + 1], ?_⟩
                (repeat' (first | assumption | rfl | omega | simp; omega | refine And.intro ?_ ?_))
              | false =>
                have hy := hno (by simp [isR, hA1, hB]; omega)
                (repeat' first | simp -dsimp (disch := first | omega | assumption | (refine OkS.sto ?_ (by omega); first | assumption | (refine OkS.sto ?_ (by omega); first | assumption | (refine OkS.sto ?_ (by omega); first | assumption | (refine OkS.sto ?_ (by omega); first | assumption | (refine OkS.sto ?_ (by omega); first | assumption | (refine OkS.sto ?_ (by omega); first | assumption)))))) | exact Pfx.refl _ | (apply Pfx.snoc; repeat (first | exact Pfx.refl _ | assumption | apply Pfx.snoc)) | with_unfolding_all exact of_eq_true (eq_true rfl) | (simp only [List.length_append, List.length_cons, List.length_nil]; omega)) only [↓wpre0, ↓wpre1, ↓reduceIte, Int.reduceToNat, Nat.reduceAdd, Nat.reduceMul, Nat.reduceEqDiff, wpost0, wpost1, wpost2, wpost3, wpost4, ite_self, ite_true, ite_false, if_true, if_false, xbls32_0, xbls32_1, xlen24, bin_lss, bin_add, xiad24, xld29, bin_feql, bin_eql, bin_sub, fr113, wrap_int, wrap_u8, iteP_yes, iteP_no, g0, g1, g5, g6, g7, hkp, hC'.len, hC'.iad, hC'.ld, eqi, hf, hA1, hB, ap] | refine iteP_two (fun hc hd => ?_) (fun hc hd => ?_) | refine iteP_intro (fun hc => ?_) (fun hc => ?_))
                refine ⟨L.length - E, by omega, E, y, A, ?_⟩
                (repeat' (first | assumption | rfl | omega | refine And.intro ?_ ?_))
            · have hE : E = L.length := by omega
              subst hE
              have hy := hyes (by simp [isR, hA1])
              (repeat' first | simp -dsimp (disch := first | omega | assumption | (refine OkS.sto ?_ (by omega); first | assumption | (refine OkS.sto ?_ (by omega); first | assumption | (refine OkS.sto ?_ (by omega); first | assumption | (refine OkS.sto ?_ (by omega); first | assumption | (refine OkS.sto ?_ (by omega); first | assumption | (refine OkS.sto ?_ (by omega); first | assumption)))))) | exact Pfx.refl _ | (apply Pfx.snoc; repeat (first | exact Pfx.refl _ | assumption | apply Pfx.snoc)) | with_unfolding_all exact of_eq_true (eq_true rfl) | (simp only [List.length_append, List.length_cons, List.length_nil]; omega)) only [↓wpre0, ↓wpre1, ↓reduceIte, Int.reduceToNat, Nat.reduceAdd, Nat.reduceMul, Nat.reduceEqDiff, wpost0, wpost1, wpost2, wpost3, wpost4, ite_self, ite_true, ite_false, if_true, if_false, xbls32_0, xbls32_1, xlen24, bin_lss, bin_add, xiad24, xld29, bin_feql, bin_eql, bin_sub, fr113, wrap_int, wrap_u8, iteP_yes, iteP_no, g0, g1, g5, g6, g7, hkp, hC'.len, hC'.iad, hC'.ld, eqi, hf, hA1, ap] | refine iteP_two (fun hc hd => ?_) (fun hc hd => ?_) | refine iteP_intro (fun hc => ?_) (fun hc => ?_))
              refine ⟨0, by omega, L.length, .slice (some ⟨h2.length + 1, 0, none⟩) (A.length + 1) (A.length + 1 + 1), A ++ [i + 1], ?_⟩
              (repeat' (first | assumption | rfl | omega | simp; omega | refine And.intro ?_ ?_))
    · have ei : i = L.length := by omega
      subst ei
      have hnf : Sim.flat y = false := by obtain ⟨_, b, cap, rfl, _⟩ := hY; rfl
      (repeat' first | simp -dsimp (disch := first | omega | assumption | (refine OkS.sto ?_ (by omega); first | assumption | (refine OkS.sto ?_ (by omega); first | assumption | (refine OkS.sto ?_ (by omega); first | assumption | (refine OkS.sto ?_ (by omega); first | assumption | (refine OkS.sto ?_ (by omega); first | assumption | (refine OkS.sto ?_ (by omega); first | assumption)))))) | exact Pfx.refl _ | (apply Pfx.snoc; repeat (first | exact Pfx.refl _ | assumption | apply Pfx.snoc)) | with_unfolding_all exact of_eq_true (eq_true rfl) | (simp only [List.length_append, List.length_cons, List.length_nil]; omega)) only [↓wpre0, ↓wpre1, ↓reduceIte, Int.reduceToNat, Nat.reduceAdd, Nat.reduceMul, Nat.reduceEqDiff, wpost0, wpost1, wpost2, wpost3, wpost4, ite_self, ite_true, ite_false, if_true, if_false, xbls32_0, xbls32_1, xlen24, bin_lss, bin_add, xiad24, xld29, bin_feql, bin_eql, bin_sub, fr113, wrap_int, wrap_u8, iteP_yes, iteP_no, g0, g1, g5, g6, hC'.len, endH_not hnf] | refine iteP_two (fun hc hd => ?_) (fun hc hd => ?_) | refine iteP_intro (fun hc => ?_) (fun hc => ?_))
      rw [rnF_end (Nat.le_refl _), List.append_nil] at hR
      rw [hR]
      exact ⟨hp, hY⟩
end Go.Proofs.Ytelogajobjflfaa.Sim
