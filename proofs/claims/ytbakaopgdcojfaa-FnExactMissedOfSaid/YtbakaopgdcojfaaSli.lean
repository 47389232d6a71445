/- The law FnExactMissedOf on the abstract machine. Lemmas only; no condition. Printed by a program of this session. -/
import Derived.Test.YtbakaopgdcojfaaSlh
import Derived.Test.YtbakaopgdcojfaaFlat
import Derived.Test.YtbakaopgdcojfaaBto
set_option linter.unusedSimpArgs false
set_option linter.unusedVariables false
set_option maxRecDepth 8000
namespace Go.Proofs.Ytbakaopgdcojfaa.Sim
open Go Go.RowKit
variable {ro : Nat}
set_option maxHeartbeats 4000000 in
theorem lawMissed_c {lo hi lo2 hi2 n m : Nat} {l s : List Int} {x y : Value} {h : Heap} {u : Int} (hI : IS lo hi 4 h x n l) (hS : IS lo2 hi2 2 h y m s) (hn0 : n ≤ 140737488355328) (hm0 : m ≤ 140737488355328) (hr64 : ∀ j, j < m * 2 → r64 (nth s j)) (hro : ro ≤ h.length) :
    CallR Try.prog ro (extJ ro) 10 [x, y, .int .i64 u] h (fun r h' => r = .bool true) := by
  have hX := extJ_n (ro := ro)
  have hr2 : ∀ j, j < m → r64 (nth s (j * 2)) := fun j hj => hr64 _ (by omega)
  refine callR_of (hX _ rfl) Try.func10 rfl (by kernel_rfl) (Nat.le_of_ble_eq_true rfl) ?_
  (repeat' first | simp -dsimp (disch := first | omega | assumption | (refine OkS.sto ?_ (by omega); first | assumption | (refine OkS.sto ?_ (by omega); first | assumption | (refine OkS.sto ?_ (by omega); first | assumption | (refine OkS.sto ?_ (by omega); first | assumption | (refine OkS.sto ?_ (by omega); first | assumption | (refine OkS.sto ?_ (by omega); first | assumption)))))) | exact Pfx.refl _ | (apply Pfx.snoc; repeat (first | exact Pfx.refl _ | assumption | apply Pfx.snoc)) | with_unfolding_all exact of_eq_true (eq_true rfl) | (simp only [List.length_append, List.length_cons, List.length_nil]; omega)) only [↓wpre0, ↓wpre1, ↓reduceIte, Int.reduceToNat, Nat.reduceAdd, Nat.reduceMul, Nat.reduceEqDiff, wpost0, wpost1, wpost2, wpost3, wpost4, ite_self, ite_true, ite_false, if_true, if_false, bin_lss, un_not, xbneq4, bin_neq, fr10, wrap_int, wrap_u8, iteP_yes, iteP_no, upR (szBeamS_r (ro := ro) (c := 1048576) noX_n hI hn0 (by omega) (by omega))] | refine iteP_two (fun hc hd => ?_) (fun hc hd => ?_) | refine iteP_intro (fun hc => ?_) (fun hc => ?_))
  have hn1 : n ≤ 1048576 := by
    rcases Nat.lt_or_ge 1048576 n with q | q
    · rw [if_pos (by omega)] at hc; omega
    · exact q
  rw [if_neg (show ¬ (1048576 : Int) - n < 0 by omega)] at *
  have hsz := upR (szSlotS_r (ro := ro) (c := 1048576 - (n : Int)) noX_n hS hm0 (by omega) (by omega))
  clear hc hd
  (repeat' first | simp -dsimp (disch := first | omega | assumption | (refine OkS.sto ?_ (by omega); first | assumption | (refine OkS.sto ?_ (by omega); first | assumption | (refine OkS.sto ?_ (by omega); first | assumption | (refine OkS.sto ?_ (by omega); first | assumption | (refine OkS.sto ?_ (by omega); first | assumption | (refine OkS.sto ?_ (by omega); first | assumption)))))) | exact Pfx.refl _ | (apply Pfx.snoc; repeat (first | exact Pfx.refl _ | assumption | apply Pfx.snoc)) | with_unfolding_all exact of_eq_true (eq_true rfl) | (simp only [List.length_append, List.length_cons, List.length_nil]; omega)) only [↓wpre0, ↓wpre1, ↓reduceIte, Int.reduceToNat, Nat.reduceAdd, Nat.reduceMul, Nat.reduceEqDiff, wpost0, wpost1, wpost2, wpost3, wpost4, ite_self, ite_true, ite_false, if_true, if_false, bin_lss, un_not, xbneq4, bin_neq, fr10, wrap_int, wrap_u8, iteP_yes, iteP_no, hsz] | refine iteP_two (fun hc hd => ?_) (fun hc hd => ?_) | refine iteP_intro (fun hc => ?_) (fun hc => ?_))
  have hm1 : m ≤ 1048576 := by
    rcases Nat.lt_or_ge 1048576 m with q | q
    · rw [if_pos (by omega)] at hc; omega
    · exact q
  clear hc hd
  have hn : n ≤ 1099511627776 := by omega
  have hm : m ≤ 1099511627776 := by omega
  refine cf_rel (upC (toBeamS_c noX_n hI hn hro)) (fun q => by cases q) ?_
  rintro r1 h1 ⟨cap1, hr1, p1, l1, I1⟩
  simp -dsimp (disch := first | omega | assumption | (refine OkS.sto ?_ (by omega); first | assumption | (refine OkS.sto ?_ (by omega); first | assumption | (refine OkS.sto ?_ (by omega); first | assumption | (refine OkS.sto ?_ (by omega); first | assumption | (refine OkS.sto ?_ (by omega); first | assumption | (refine OkS.sto ?_ (by omega); first | assumption)))))) | exact Pfx.refl _ | (apply Pfx.snoc; repeat (first | exact Pfx.refl _ | assumption | apply Pfx.snoc)) | with_unfolding_all exact of_eq_true (eq_true rfl) | (simp only [List.length_append, List.length_cons, List.length_nil]; omega)) only [↓wpre0, ↓wpre1, ↓reduceIte, Int.reduceToNat, Nat.reduceAdd, Nat.reduceMul, Nat.reduceEqDiff, wpost0, wpost1, wpost2, wpost3, wpost4, ite_self, ite_true, ite_false, if_true, if_false, bin_lss, un_not, xbneq4, bin_neq, fr10, wrap_int, wrap_u8, iteP_yes, iteP_no]
  refine cf_rel (upC (toSlotS_c noX_n (hS.pre p1) hm (by omega))) (fun q => by cases q) ?_
  rintro s1 g1 ⟨capS1, hs1, q1, k1, S1⟩
  simp -dsimp (disch := first | omega | assumption | (refine OkS.sto ?_ (by omega); first | assumption | (refine OkS.sto ?_ (by omega); first | assumption | (refine OkS.sto ?_ (by omega); first | assumption | (refine OkS.sto ?_ (by omega); first | assumption | (refine OkS.sto ?_ (by omega); first | assumption | (refine OkS.sto ?_ (by omega); first | assumption)))))) | exact Pfx.refl _ | (apply Pfx.snoc; repeat (first | exact Pfx.refl _ | assumption | apply Pfx.snoc)) | with_unfolding_all exact of_eq_true (eq_true rfl) | (simp only [List.length_append, List.length_cons, List.length_nil]; omega)) only [↓wpre0, ↓wpre1, ↓reduceIte, Int.reduceToNat, Nat.reduceAdd, Nat.reduceMul, Nat.reduceEqDiff, wpost0, wpost1, wpost2, wpost3, wpost4, ite_self, ite_true, ite_false, if_true, if_false, bin_lss, un_not, xbneq4, bin_neq, fr10, wrap_int, wrap_u8, iteP_yes, iteP_no]
  refine cf_rel (upC (sMissed_c noX_n (u := u) (I1.pre q1) S1 hn1 hm1 (by omega))) (fun q => by cases q) ?_
  rintro r h2 ⟨p2, y0, rfl, IY⟩
  have L2 := p2.len
  have P2 := p1.trans (q1.trans p2)
  have hcl : (cond (plU n l m s u) (missL n l m s u n)).length ≤ 1099511627776 := by
    have : (cond (plU n l m s u) (missL n l m s u n)).length ≤ n := cond_len (by rw [missL_len]; omega)
    omega
  simp -dsimp (disch := first | omega | assumption | (refine OkS.sto ?_ (by omega); first | assumption | (refine OkS.sto ?_ (by omega); first | assumption | (refine OkS.sto ?_ (by omega); first | assumption | (refine OkS.sto ?_ (by omega); first | assumption | (refine OkS.sto ?_ (by omega); first | assumption | (refine OkS.sto ?_ (by omega); first | assumption)))))) | exact Pfx.refl _ | (apply Pfx.snoc; repeat (first | exact Pfx.refl _ | assumption | apply Pfx.snoc)) | with_unfolding_all exact of_eq_true (eq_true rfl) | (simp only [List.length_append, List.length_cons, List.length_nil]; omega)) only [↓wpre0, ↓wpre1, ↓reduceIte, Int.reduceToNat, Nat.reduceAdd, Nat.reduceMul, Nat.reduceEqDiff, wpost0, wpost1, wpost2, wpost3, wpost4, ite_self, ite_true, ite_false, if_true, if_false, bin_lss, un_not, xbneq4, bin_neq, fr10, wrap_int, wrap_u8, iteP_yes, iteP_no]
  refine cf_rel (upC (toBeamS_c noX_n (hI.pre P2) hn (by omega))) (fun q => by cases q) ?_
  rintro r3 h3 ⟨cap3, hr3, p3, l3, I3⟩
  simp -dsimp (disch := first | omega | assumption | (refine OkS.sto ?_ (by omega); first | assumption | (refine OkS.sto ?_ (by omega); first | assumption | (refine OkS.sto ?_ (by omega); first | assumption | (refine OkS.sto ?_ (by omega); first | assumption | (refine OkS.sto ?_ (by omega); first | assumption | (refine OkS.sto ?_ (by omega); first | assumption)))))) | exact Pfx.refl _ | (apply Pfx.snoc; repeat (first | exact Pfx.refl _ | assumption | apply Pfx.snoc)) | with_unfolding_all exact of_eq_true (eq_true rfl) | (simp only [List.length_append, List.length_cons, List.length_nil]; omega)) only [↓wpre0, ↓wpre1, ↓reduceIte, Int.reduceToNat, Nat.reduceAdd, Nat.reduceMul, Nat.reduceEqDiff, wpost0, wpost1, wpost2, wpost3, wpost4, ite_self, ite_true, ite_false, if_true, if_false, bin_lss, un_not, xbneq4, bin_neq, fr10, wrap_int, wrap_u8, iteP_yes, iteP_no]
  refine cf_rel (upC (toSlotS_c noX_n (hS.pre (P2.trans p3)) hm (by omega))) (fun q => by cases q) ?_
  rintro s3 g3 ⟨capS3, hs3, q3, k3, S3⟩
  simp -dsimp (disch := first | omega | assumption | (refine OkS.sto ?_ (by omega); first | assumption | (refine OkS.sto ?_ (by omega); first | assumption | (refine OkS.sto ?_ (by omega); first | assumption | (refine OkS.sto ?_ (by omega); first | assumption | (refine OkS.sto ?_ (by omega); first | assumption | (refine OkS.sto ?_ (by omega); first | assumption)))))) | exact Pfx.refl _ | (apply Pfx.snoc; repeat (first | exact Pfx.refl _ | assumption | apply Pfx.snoc)) | with_unfolding_all exact of_eq_true (eq_true rfl) | (simp only [List.length_append, List.length_cons, List.length_nil]; omega)) only [↓wpre0, ↓wpre1, ↓reduceIte, Int.reduceToNat, Nat.reduceAdd, Nat.reduceMul, Nat.reduceEqDiff, wpost0, wpost1, wpost2, wpost3, wpost4, ite_self, ite_true, ite_false, if_true, if_false, bin_lss, un_not, xbneq4, bin_neq, fr10, wrap_int, wrap_u8, iteP_yes, iteP_no]
  refine cf_rel (iMissed_c (u := u) (I3.pre q3) S3 hn1 hm1 hr2 (by omega)) (fun q => by cases q) ?_
  rintro r h4 ⟨p4, y4, rfl, IY4⟩
  have L4 := p4.len
  have P4 := P2.trans (p3.trans (q3.trans p4))
  have IYa := IY.pre (p3.trans (q3.trans p4))
  have I3a := I3.pre (q3.trans p4)
  have S3a := S3.pre p4
  simp -dsimp (disch := first | omega | assumption | (refine OkS.sto ?_ (by omega); first | assumption | (refine OkS.sto ?_ (by omega); first | assumption | (refine OkS.sto ?_ (by omega); first | assumption | (refine OkS.sto ?_ (by omega); first | assumption | (refine OkS.sto ?_ (by omega); first | assumption | (refine OkS.sto ?_ (by omega); first | assumption)))))) | exact Pfx.refl _ | (apply Pfx.snoc; repeat (first | exact Pfx.refl _ | assumption | apply Pfx.snoc)) | with_unfolding_all exact of_eq_true (eq_true rfl) | (simp only [List.length_append, List.length_cons, List.length_nil]; omega)) only [↓wpre0, ↓wpre1, ↓reduceIte, Int.reduceToNat, Nat.reduceAdd, Nat.reduceMul, Nat.reduceEqDiff, wpost0, wpost1, wpost2, wpost3, wpost4, ite_self, ite_true, ite_false, if_true, if_false, bin_lss, un_not, xbneq4, bin_neq, fr10, wrap_int, wrap_u8, iteP_yes, iteP_no, upR (eqInt64S_r (ro := ro) noX_n IY4 IYa hcl hcl (by omega)), decide_true, bne_self_eq_false]
  refine cf_rel (upC (toBeamS_c noX_n (hI.pre P4) hn (by omega))) (fun q => by cases q) ?_
  rintro r5 h5 ⟨cap5, hr5, p5, l5, I5⟩
  simp -dsimp (disch := first | omega | assumption | (refine OkS.sto ?_ (by omega); first | assumption | (refine OkS.sto ?_ (by omega); first | assumption | (refine OkS.sto ?_ (by omega); first | assumption | (refine OkS.sto ?_ (by omega); first | assumption | (refine OkS.sto ?_ (by omega); first | assumption | (refine OkS.sto ?_ (by omega); first | assumption)))))) | exact Pfx.refl _ | (apply Pfx.snoc; repeat (first | exact Pfx.refl _ | assumption | apply Pfx.snoc)) | with_unfolding_all exact of_eq_true (eq_true rfl) | (simp only [List.length_append, List.length_cons, List.length_nil]; omega)) only [↓wpre0, ↓wpre1, ↓reduceIte, Int.reduceToNat, Nat.reduceAdd, Nat.reduceMul, Nat.reduceEqDiff, wpost0, wpost1, wpost2, wpost3, wpost4, ite_self, ite_true, ite_false, if_true, if_false, bin_lss, un_not, xbneq4, bin_neq, fr10, wrap_int, wrap_u8, iteP_yes, iteP_no, upR (eqBeamS_r (ro := ro) noX_n (I3a.pre p5) I5 hn hn (by omega)), decide_true, bne_self_eq_false]
  refine cf_rel (upC (toSlotS_c noX_n (hS.pre (P4.trans p5)) hm (by omega))) (fun q => by cases q) ?_
  rintro s5 g5 ⟨capS5, hs5, q5, k5, S5⟩
  have P5 := P4.trans (p5.trans q5)
  have pq := p5.trans q5
  have I3b := I3a.pre pq
  have S3b := S3a.pre pq
  simp -dsimp (disch := first | omega | assumption | (refine OkS.sto ?_ (by omega); first | assumption | (refine OkS.sto ?_ (by omega); first | assumption | (refine OkS.sto ?_ (by omega); first | assumption | (refine OkS.sto ?_ (by omega); first | assumption | (refine OkS.sto ?_ (by omega); first | assumption | (refine OkS.sto ?_ (by omega); first | assumption)))))) | exact Pfx.refl _ | (apply Pfx.snoc; repeat (first | exact Pfx.refl _ | assumption | apply Pfx.snoc)) | with_unfolding_all exact of_eq_true (eq_true rfl) | (simp only [List.length_append, List.length_cons, List.length_nil]; omega)) only [↓wpre0, ↓wpre1, ↓reduceIte, Int.reduceToNat, Nat.reduceAdd, Nat.reduceMul, Nat.reduceEqDiff, wpost0, wpost1, wpost2, wpost3, wpost4, ite_self, ite_true, ite_false, if_true, if_false, bin_lss, un_not, xbneq4, bin_neq, fr10, wrap_int, wrap_u8, iteP_yes, iteP_no, upR (eqSlotS_r (ro := ro) noX_n S3b S5 hm hm (by omega)), decide_true, bne_self_eq_false]
  refine cf_rel (upC (markBeamS_c (c := 1) noX_n I3b hn (by omega) (by omega) (by omega))) (fun q => by cases q) ?_
  rintro r6 h6 ⟨rfl, I6, R6⟩
  have l6 := R6.1
  have IY6 := (IYa.pre pq).rng R6 (by omega)
  have IZ6 := (IY4.pre pq).rng R6 (by omega)
  have S6 := S3b.rng R6 (by omega)
  simp -dsimp (disch := first | omega | assumption | (refine OkS.sto ?_ (by omega); first | assumption | (refine OkS.sto ?_ (by omega); first | assumption | (refine OkS.sto ?_ (by omega); first | assumption | (refine OkS.sto ?_ (by omega); first | assumption | (refine OkS.sto ?_ (by omega); first | assumption | (refine OkS.sto ?_ (by omega); first | assumption)))))) | exact Pfx.refl _ | (apply Pfx.snoc; repeat (first | exact Pfx.refl _ | assumption | apply Pfx.snoc)) | with_unfolding_all exact of_eq_true (eq_true rfl) | (simp only [List.length_append, List.length_cons, List.length_nil]; omega)) only [↓wpre0, ↓wpre1, ↓reduceIte, Int.reduceToNat, Nat.reduceAdd, Nat.reduceMul, Nat.reduceEqDiff, wpost0, wpost1, wpost2, wpost3, wpost4, ite_self, ite_true, ite_false, if_true, if_false, bin_lss, un_not, xbneq4, bin_neq, fr10, wrap_int, wrap_u8, iteP_yes, iteP_no]
  refine cf_rel (upC (markSlotS_c (c := 1 + ((n * 4 : Nat) : Int)) noX_n S6 hm (by omega) (by omega) (by omega))) (fun q => by cases q) ?_
  rintro r7 h7 ⟨rfl, I7, R7⟩
  have l7 := R7.1
  have IY7 := IY6.rng R7 (by omega)
  have IZ7 := IZ6.rng R7 (by omega)
  simp -dsimp (disch := first | omega | assumption | (refine OkS.sto ?_ (by omega); first | assumption | (refine OkS.sto ?_ (by omega); first | assumption | (refine OkS.sto ?_ (by omega); first | assumption | (refine OkS.sto ?_ (by omega); first | assumption | (refine OkS.sto ?_ (by omega); first | assumption | (refine OkS.sto ?_ (by omega); first | assumption)))))) | exact Pfx.refl _ | (apply Pfx.snoc; repeat (first | exact Pfx.refl _ | assumption | apply Pfx.snoc)) | with_unfolding_all exact of_eq_true (eq_true rfl) | (simp only [List.length_append, List.length_cons, List.length_nil]; omega)) only [↓wpre0, ↓wpre1, ↓reduceIte, Int.reduceToNat, Nat.reduceAdd, Nat.reduceMul, Nat.reduceEqDiff, wpost0, wpost1, wpost2, wpost3, wpost4, ite_self, ite_true, ite_false, if_true, if_false, bin_lss, un_not, xbneq4, bin_neq, fr10, wrap_int, wrap_u8, iteP_yes, iteP_no, upR (eqInt64S_r (ro := ro) noX_n IZ7 IY7 hcl hcl (by omega)), decide_true, bne_self_eq_false]
  refine cf_rel (upC (markInt64S_c (c := 1) noX_n IZ7 hcl (by omega) (by omega) (by omega))) (fun q => by cases q) ?_
  rintro r8 h8 ⟨rfl, I8, R8⟩
  have l8 := R8.1
  have L5 := pq.len
  have IY8 := IY7.rng R8 (by omega)
  have hM : Mrkd 1 (mrk 1 ((cond (plU n l m s u) (missL n l m s u n)).length * 1) (cond (plU n l m s u) (missL n l m s u n))) := by rw [← IZ7.1]; exact mrkd
  simp -dsimp (disch := first | omega | assumption | (refine OkS.sto ?_ (by omega); first | assumption | (refine OkS.sto ?_ (by omega); first | assumption | (refine OkS.sto ?_ (by omega); first | assumption | (refine OkS.sto ?_ (by omega); first | assumption | (refine OkS.sto ?_ (by omega); first | assumption | (refine OkS.sto ?_ (by omega); first | assumption)))))) | exact Pfx.refl _ | (apply Pfx.snoc; repeat (first | exact Pfx.refl _ | assumption | apply Pfx.snoc)) | with_unfolding_all exact of_eq_true (eq_true rfl) | (simp only [List.length_append, List.length_cons, List.length_nil]; omega)) only [↓wpre0, ↓wpre1, ↓reduceIte, Int.reduceToNat, Nat.reduceAdd, Nat.reduceMul, Nat.reduceEqDiff, wpost0, wpost1, wpost2, wpost3, wpost4, ite_self, ite_true, ite_false, if_true, if_false, bin_lss, un_not, xbneq4, bin_neq, fr10, wrap_int, wrap_u8, iteP_yes, iteP_no, upR (heldInt64S_r (ro := ro) (c := 1) noX_n I8 hM hcl (by omega) (by omega)), decide_true, bne_self_eq_false]
  have P8 : Pfx h h8 := ((P5.rng R6 (by omega)).rng R7 (by omega)).rng R8 (by omega)
  refine cf_rel (upC (toBeamS_c noX_n (hI.pre P8) hn (by omega))) (fun q => by cases q) ?_
  rintro r9 h9 ⟨cap9, hr9, p9, l9, I9⟩
  simp -dsimp (disch := first | omega | assumption | (refine OkS.sto ?_ (by omega); first | assumption | (refine OkS.sto ?_ (by omega); first | assumption | (refine OkS.sto ?_ (by omega); first | assumption | (refine OkS.sto ?_ (by omega); first | assumption | (refine OkS.sto ?_ (by omega); first | assumption | (refine OkS.sto ?_ (by omega); first | assumption)))))) | exact Pfx.refl _ | (apply Pfx.snoc; repeat (first | exact Pfx.refl _ | assumption | apply Pfx.snoc)) | with_unfolding_all exact of_eq_true (eq_true rfl) | (simp only [List.length_append, List.length_cons, List.length_nil]; omega)) only [↓wpre0, ↓wpre1, ↓reduceIte, Int.reduceToNat, Nat.reduceAdd, Nat.reduceMul, Nat.reduceEqDiff, wpost0, wpost1, wpost2, wpost3, wpost4, ite_self, ite_true, ite_false, if_true, if_false, bin_lss, un_not, xbneq4, bin_neq, fr10, wrap_int, wrap_u8, iteP_yes, iteP_no]
  refine cf_rel (upC (toSlotS_c noX_n (hS.pre (P8.trans p9)) hm (by omega))) (fun q => by cases q) ?_
  rintro s9 g9 ⟨capS9, hs9, q9, k9, S9⟩
  simp -dsimp (disch := first | omega | assumption | (refine OkS.sto ?_ (by omega); first | assumption | (refine OkS.sto ?_ (by omega); first | assumption | (refine OkS.sto ?_ (by omega); first | assumption | (refine OkS.sto ?_ (by omega); first | assumption | (refine OkS.sto ?_ (by omega); first | assumption | (refine OkS.sto ?_ (by omega); first | assumption)))))) | exact Pfx.refl _ | (apply Pfx.snoc; repeat (first | exact Pfx.refl _ | assumption | apply Pfx.snoc)) | with_unfolding_all exact of_eq_true (eq_true rfl) | (simp only [List.length_append, List.length_cons, List.length_nil]; omega)) only [↓wpre0, ↓wpre1, ↓reduceIte, Int.reduceToNat, Nat.reduceAdd, Nat.reduceMul, Nat.reduceEqDiff, wpost0, wpost1, wpost2, wpost3, wpost4, ite_self, ite_true, ite_false, if_true, if_false, bin_lss, un_not, xbneq4, bin_neq, fr10, wrap_int, wrap_u8, iteP_yes, iteP_no]
  refine cf_rel (iMissed_c (u := u) (I9.pre q9) S9 hn1 hm1 hr2 (by omega)) (fun q => by cases q) ?_
  rintro r h10 ⟨p10, y10, rfl, IY10⟩
  have L10 := p10.len
  have P10 := p9.trans (q9.trans p10)
  have IYb := IY8.pre P10
  have I8b := I8.pre P10
  simp -dsimp (disch := first | omega | assumption | (refine OkS.sto ?_ (by omega); first | assumption | (refine OkS.sto ?_ (by omega); first | assumption | (refine OkS.sto ?_ (by omega); first | assumption | (refine OkS.sto ?_ (by omega); first | assumption | (refine OkS.sto ?_ (by omega); first | assumption | (refine OkS.sto ?_ (by omega); first | assumption)))))) | exact Pfx.refl _ | (apply Pfx.snoc; repeat (first | exact Pfx.refl _ | assumption | apply Pfx.snoc)) | with_unfolding_all exact of_eq_true (eq_true rfl) | (simp only [List.length_append, List.length_cons, List.length_nil]; omega)) only [↓wpre0, ↓wpre1, ↓reduceIte, Int.reduceToNat, Nat.reduceAdd, Nat.reduceMul, Nat.reduceEqDiff, wpost0, wpost1, wpost2, wpost3, wpost4, ite_self, ite_true, ite_false, if_true, if_false, bin_lss, un_not, xbneq4, bin_neq, fr10, wrap_int, wrap_u8, iteP_yes, iteP_no, upR (eqInt64S_r (ro := ro) noX_n IY10 IYb hcl hcl (by omega)), upR (heldInt64S_r (ro := ro) (c := 1) noX_n I8b hM hcl (by omega) (by omega)), decide_true, bne_self_eq_false]
end Go.Proofs.Ytbakaopgdcojfaa.Sim
