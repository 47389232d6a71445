/- Phasors: fractions and sines as plain functions on bits. Lemmas only; no condition. -/
import Derived.Test.YtkhipobafchilaaMth
import Derived.Test.YtkhipobafchilaaDrx
import Derived.Test.YtkhipobafchilaaFlq
import Derived.Test.YtkhipobafchilaaCpx
set_option linter.unusedSimpArgs false
set_option linter.unusedVariables false
set_option maxRecDepth 8000
namespace Go.Proofs.Ytkhipobafchilaa.Sim
open Go Go.RowKit
variable {ro : Nat} {X : Ext} {h : Heap}
def fOne : Nat := 4607182418800017408
def fTwo : Nat := 4611686018427387904
def fHalf : Nat := 4602678819172646912
def fQuarter : Nat := 4598175219545276416
def fFull : Nat := 4618760256179416344
/-- A number of turns without whole ones. -/
def frF (x : Nat) : Option Nat := (floatToIntVal .f64 x .i64).map fun n =>
  let f := farith .sub .f64 x (cf .f64 (FloatKind.f64.nearest n))
  if fcmp .lss .f64 f 0 = true then farith .add .f64 f fOne else f
def kb (j : Nat) : Nat := FloatKind.f64.nearest (8 - (j : Int))
def pj (u : Nat) : Nat → Nat
  | 0 => fOne
  | j + 1 => farith .sub .f64 fOne (farith .quo .f64 (farith .mul .f64 u (pj u j)) (farith .mul .f64 (farith .mul .f64 fTwo (kb j)) (farith .add .f64 (farith .mul .f64 fTwo (kb j)) fOne)))
/-- The sine of less than one turn. -/
def sinG (f : Nat) : Nat :=
  let turned := fcmp .leq .f64 fHalf f
  let f1 := if turned then farith .sub .f64 f fHalf else f
  let f2 := if fcmp .lss .f64 fQuarter f1 then farith .sub .f64 fHalf f1 else f1
  let z := farith .mul .f64 f2 fFull
  let r := farith .mul .f64 z (pj (farith .mul .f64 z z) 8)
  if turned then cf .f64 (Op.negFloat .f64 r) else r
def sinF (x : Nat) : Option Nat := (frF x).map sinG
/-- So many 4096ths. -/
def q4096 (k : Nat) : Nat := farith .quo .f64 (FloatKind.f64.nearest (k : Int)) (FloatKind.f64.nearest 4096)
theorem fraction_r (hX : XN X) {x f : Nat} (hf : frF x = some f) : Ret Try.prog ro X 67 [.float .f64 x] h (.float .f64 f) := by
  unfold frF at hf
  simp only [Option.map_eq_some_iff] at hf
  obtain ⟨n, hn, hf⟩ := hf
  refine ret_of (callR_of (hX _ rfl) Try.func67 rfl (by kernel_rfl) (Nat.le_of_ble_eq_true rfl) ?_)
  by_cases hc : fcmp .lss .f64 (farith .sub .f64 x (cf .f64 (FloatKind.f64.nearest n))) 0 = true
  · rw [if_pos hc] at hf
    (repeat' first | simp -dsimp (disch := first | omega | assumption | (refine OkS.sto ?_ (by omega); first | assumption | (refine OkS.sto ?_ (by omega); first | assumption | (refine OkS.sto ?_ (by omega); first | assumption | (refine OkS.sto ?_ (by omega); first | assumption | (refine OkS.sto ?_ (by omega); first | assumption | (refine OkS.sto ?_ (by omega); first | assumption)))))) | exact Pfx.refl _ | (apply Pfx.snoc; repeat (first | exact Pfx.refl _ | assumption | apply Pfx.snoc)) | with_unfolding_all exact of_eq_true (eq_true rfl) | (simp only [List.length_append, List.length_cons, List.length_nil]; omega)) only [↓wpre0, ↓wpre1, ↓reduceIte, Int.reduceToNat, Nat.reduceAdd, Nat.reduceMul, Nat.reduceEqDiff, wpost0, wpost1, wpost2, wpost3, wpost4, ite_self, ite_true, ite_false, if_true, if_false, xcv39_2, xcv2_39, bin_fsub, bin_flss, bin_fadd, fr67, wrap_int, wrap_u8, iteP_yes, iteP_no, hn, hc, Option.map_some] | refine iteP_two (fun hc hd => ?_) (fun hc hd => ?_) | refine iteP_intro (fun hc => ?_) (fun hc => ?_))
    exact congrArg _ hf
  · rw [if_neg hc] at hf
    have hc' : fcmp .lss .f64 (farith .sub .f64 x (cf .f64 (FloatKind.f64.nearest n))) 0 = false := by simpa using hc
    (repeat' first | simp -dsimp (disch := first | omega | assumption | (refine OkS.sto ?_ (by omega); first | assumption | (refine OkS.sto ?_ (by omega); first | assumption | (refine OkS.sto ?_ (by omega); first | assumption | (refine OkS.sto ?_ (by omega); first | assumption | (refine OkS.sto ?_ (by omega); first | assumption | (refine OkS.sto ?_ (by omega); first | assumption)))))) | exact Pfx.refl _ | (apply Pfx.snoc; repeat (first | exact Pfx.refl _ | assumption | apply Pfx.snoc)) | with_unfolding_all exact of_eq_true (eq_true rfl) | (simp only [List.length_append, List.length_cons, List.length_nil]; omega)) only [↓wpre0, ↓wpre1, ↓reduceIte, Int.reduceToNat, Nat.reduceAdd, Nat.reduceMul, Nat.reduceEqDiff, wpost0, wpost1, wpost2, wpost3, wpost4, ite_self, ite_true, ite_false, if_true, if_false, xcv39_2, xcv2_39, bin_fsub, bin_flss, bin_fadd, fr67, wrap_int, wrap_u8, iteP_yes, iteP_no, hn, hc', Option.map_some] | refine iteP_two (fun hc hd => ?_) (fun hc hd => ?_) | refine iteP_intro (fun hc => ?_) (fun hc => ?_))
    exact congrArg _ hf
theorem kb_ge : ∀ j, j < 8 → fcmp .leq .f64 fOne (kb j) = true := by decide +kernel
theorem kb_end : fcmp .leq .f64 fOne (kb 8) = false := by decide +kernel
theorem kb_next : ∀ j, j < 8 → farith .sub .f64 (kb j) fOne = kb (j + 1) := by decide +kernel
set_option maxHeartbeats 2000000 in
theorem sine_r (hX : XN X) {x f : Nat} (hf : frF x = some f) : Ret Try.prog ro X 68 [.float .f64 x] h (.float .f64 (sinG f)) := by
  refine ret_of (callR_of (hX _ rfl) Try.func68 rfl (by kernel_rfl) (Nat.le_of_ble_eq_true rfl) ?_)
  obtain ⟨td, htd⟩ : ∃ td, td = fcmp .leq .f64 fHalf f := ⟨_, rfl⟩
  obtain ⟨f1, hf1⟩ : ∃ f1, f1 = if td then farith .sub .f64 f fHalf else f := ⟨_, rfl⟩
  obtain ⟨f2, hf2⟩ : ∃ f2, f2 = if fcmp .lss .f64 fQuarter f1 then farith .sub .f64 fHalf f1 else f1 := ⟨_, rfl⟩
  have e : sinG f = if td then cf .f64 (Op.negFloat .f64 (farith .mul .f64 (farith .mul .f64 f2 fFull) (pj (farith .mul .f64 (farith .mul .f64 f2 fFull) (farith .mul .f64 f2 fFull)) 8))) else farith .mul .f64 (farith .mul .f64 f2 fFull) (pj (farith .mul .f64 (farith .mul .f64 f2 fFull) (farith .mul .f64 f2 fFull)) 8) := by
    rw [hf2, hf1, htd]; rfl
  rw [e]
  have k0 : Value.float .f64 4620693217682128896 = .float .f64 (kb 0) := congrArg (Value.float .f64) (show 4620693217682128896 = kb 0 by decide +kernel)
  cases td
  · cases hg : fcmp .lss .f64 fQuarter f1
    · rw [hg] at hf2
      simp only [Bool.false_eq_true, if_false, if_true] at hf1 hf2 ⊢
      subst hf1
      subst hf2
      obtain ⟨z, hz⟩ : ∃ z, z = farith .mul .f64 f2 fFull := ⟨_, rfl⟩
      obtain ⟨u, hu⟩ : ∃ u, u = farith .mul .f64 z z := ⟨_, rfl⟩
      rw [← hz, ← hu]
      have q1 := htd.symm
      have q2 := hg
      have q3 := hz.symm
      have q4 := hu.symm
      simp only [fHalf, fQuarter, fFull] at q1 q2 q3
      (repeat' first | simp -dsimp (disch := first | omega | assumption | (refine OkS.sto ?_ (by omega); first | assumption | (refine OkS.sto ?_ (by omega); first | assumption | (refine OkS.sto ?_ (by omega); first | assumption | (refine OkS.sto ?_ (by omega); first | assumption | (refine OkS.sto ?_ (by omega); first | assumption | (refine OkS.sto ?_ (by omega); first | assumption)))))) | exact Pfx.refl _ | (apply Pfx.snoc; repeat (first | exact Pfx.refl _ | assumption | apply Pfx.snoc)) | with_unfolding_all exact of_eq_true (eq_true rfl) | (simp only [List.length_append, List.length_cons, List.length_nil]; omega)) only [↓wpre0, ↓wpre1, ↓reduceIte, Int.reduceToNat, Nat.reduceAdd, Nat.reduceMul, Nat.reduceEqDiff, wpost0, wpost1, wpost2, wpost3, wpost4, ite_self, ite_true, ite_false, if_true, if_false, bin_fgeq, bin_fsub, bin_fgtr, bin_fmul, bin_fadd, bin_fquo, un_fneg, fr68, wrap_int, wrap_u8, iteP_yes, iteP_no, fraction_r hX hf, q1, q2, q3, q4] | refine iteP_two (fun hc hd => ?_) (fun hc hd => ?_) | refine iteP_intro (fun hc => ?_) (fun hc => ?_))
      refine loop_rounds (fun mm e h' => ∃ j : Nat, mm = 8 - j ∧ j ≤ 8 ∧ h' = h ∧ e 4 = .bool false ∧ e 5 = .float .f64 z ∧ e 6 = .float .f64 u ∧ e 7 = .float .f64 (pj u j) ∧ e 8 = .float .f64 (kb j)) _ ⟨0, rfl, ?_⟩ ?_
      · simp only [updO_at, updO_not, entry_at, List.getD_cons_zero, List.getD_cons_succ, ↓reduceIte, Nat.reduceEqDiff, true_and, and_true]
        exact ⟨by omega, rfl, k0⟩
      · rintro mm e h' ⟨j, hmm, hj, rfl, g4, g5, g6, g7, g8⟩
        by_cases hj8 : j < 8
        · have k1 := kb_ge j hj8
          have k2 := kb_next j hj8
          unfold fOne at k1 k2
          (repeat' first | simp -dsimp (disch := first | omega | assumption | (refine OkS.sto ?_ (by omega); first | assumption | (refine OkS.sto ?_ (by omega); first | assumption | (refine OkS.sto ?_ (by omega); first | assumption | (refine OkS.sto ?_ (by omega); first | assumption | (refine OkS.sto ?_ (by omega); first | assumption | (refine OkS.sto ?_ (by omega); first | assumption)))))) | exact Pfx.refl _ | (apply Pfx.snoc; repeat (first | exact Pfx.refl _ | assumption | apply Pfx.snoc)) | with_unfolding_all exact of_eq_true (eq_true rfl) | (simp only [List.length_append, List.length_cons, List.length_nil]; omega)) only [↓wpre0, ↓wpre1, ↓reduceIte, Int.reduceToNat, Nat.reduceAdd, Nat.reduceMul, Nat.reduceEqDiff, wpost0, wpost1, wpost2, wpost3, wpost4, ite_self, ite_true, ite_false, if_true, if_false, bin_fgeq, bin_fsub, bin_fgtr, bin_fmul, bin_fadd, bin_fquo, un_fneg, fr68, wrap_int, wrap_u8, iteP_yes, iteP_no, g4, g5, g6, g7, g8, k1, k2] | refine iteP_two (fun hc hd => ?_) (fun hc hd => ?_) | refine iteP_intro (fun hc => ?_) (fun hc => ?_))
          refine ⟨8 - (j + 1), by omega, j + 1, rfl, by omega, rfl, rfl⟩
        · have : j = 8 := by omega
          subst this
          have k1 := kb_end
          unfold fOne at k1
          (repeat' first | simp -dsimp (disch := first | omega | assumption | (refine OkS.sto ?_ (by omega); first | assumption | (refine OkS.sto ?_ (by omega); first | assumption | (refine OkS.sto ?_ (by omega); first | assumption | (refine OkS.sto ?_ (by omega); first | assumption | (refine OkS.sto ?_ (by omega); first | assumption | (refine OkS.sto ?_ (by omega); first | assumption)))))) | exact Pfx.refl _ | (apply Pfx.snoc; repeat (first | exact Pfx.refl _ | assumption | apply Pfx.snoc)) | with_unfolding_all exact of_eq_true (eq_true rfl) | (simp only [List.length_append, List.length_cons, List.length_nil]; omega)) only [↓wpre0, ↓wpre1, ↓reduceIte, Int.reduceToNat, Nat.reduceAdd, Nat.reduceMul, Nat.reduceEqDiff, wpost0, wpost1, wpost2, wpost3, wpost4, ite_self, ite_true, ite_false, if_true, if_false, bin_fgeq, bin_fsub, bin_fgtr, bin_fmul, bin_fadd, bin_fquo, un_fneg, fr68, wrap_int, wrap_u8, iteP_yes, iteP_no, g4, g5, g6, g7, g8, k1] | refine iteP_two (fun hc hd => ?_) (fun hc hd => ?_) | refine iteP_intro (fun hc => ?_) (fun hc => ?_))
    · rw [hg] at hf2
      simp only [Bool.false_eq_true, if_false, if_true] at hf1 hf2 ⊢
      subst hf1
      obtain ⟨z, hz⟩ : ∃ z, z = farith .mul .f64 f2 fFull := ⟨_, rfl⟩
      obtain ⟨u, hu⟩ : ∃ u, u = farith .mul .f64 z z := ⟨_, rfl⟩
      rw [← hz, ← hu]
      have q1 := htd.symm
      have q2 := hg
      have q3 := hz.symm
      have q4 := hu.symm
      have q6 := hf2.symm
      simp only [fHalf, fQuarter, fFull] at q1 q2 q3 q6
      (repeat' first | simp -dsimp (disch := first | omega | assumption | (refine OkS.sto ?_ (by omega); first | assumption | (refine OkS.sto ?_ (by omega); first | assumption | (refine OkS.sto ?_ (by omega); first | assumption | (refine OkS.sto ?_ (by omega); first | assumption | (refine OkS.sto ?_ (by omega); first | assumption | (refine OkS.sto ?_ (by omega); first | assumption)))))) | exact Pfx.refl _ | (apply Pfx.snoc; repeat (first | exact Pfx.refl _ | assumption | apply Pfx.snoc)) | with_unfolding_all exact of_eq_true (eq_true rfl) | (simp only [List.length_append, List.length_cons, List.length_nil]; omega)) only [↓wpre0, ↓wpre1, ↓reduceIte, Int.reduceToNat, Nat.reduceAdd, Nat.reduceMul, Nat.reduceEqDiff, wpost0, wpost1, wpost2, wpost3, wpost4, ite_self, ite_true, ite_false, if_true, if_false, bin_fgeq, bin_fsub, bin_fgtr, bin_fmul, bin_fadd, bin_fquo, un_fneg, fr68, wrap_int, wrap_u8, iteP_yes, iteP_no, fraction_r hX hf, q1, q2, q3, q4, q6] | refine iteP_two (fun hc hd => ?_) (fun hc hd => ?_) | refine iteP_intro (fun hc => ?_) (fun hc => ?_))
      refine loop_rounds (fun mm e h' => ∃ j : Nat, mm = 8 - j ∧ j ≤ 8 ∧ h' = h ∧ e 4 = .bool false ∧ e 5 = .float .f64 z ∧ e 6 = .float .f64 u ∧ e 7 = .float .f64 (pj u j) ∧ e 8 = .float .f64 (kb j)) _ ⟨0, rfl, ?_⟩ ?_
      · simp only [updO_at, updO_not, entry_at, List.getD_cons_zero, List.getD_cons_succ, ↓reduceIte, Nat.reduceEqDiff, true_and, and_true]
        exact ⟨by omega, rfl, k0⟩
      · rintro mm e h' ⟨j, hmm, hj, rfl, g4, g5, g6, g7, g8⟩
        by_cases hj8 : j < 8
        · have k1 := kb_ge j hj8
          have k2 := kb_next j hj8
          unfold fOne at k1 k2
          (repeat' first | simp -dsimp (disch := first | omega | assumption | (refine OkS.sto ?_ (by omega); first | assumption | (refine OkS.sto ?_ (by omega); first | assumption | (refine OkS.sto ?_ (by omega); first | assumption | (refine OkS.sto ?_ (by omega); first | assumption | (refine OkS.sto ?_ (by omega); first | assumption | (refine OkS.sto ?_ (by omega); first | assumption)))))) | exact Pfx.refl _ | (apply Pfx.snoc; repeat (first | exact Pfx.refl _ | assumption | apply Pfx.snoc)) | with_unfolding_all exact of_eq_true (eq_true rfl) | (simp only [List.length_append, List.length_cons, List.length_nil]; omega)) only [↓wpre0, ↓wpre1, ↓reduceIte, Int.reduceToNat, Nat.reduceAdd, Nat.reduceMul, Nat.reduceEqDiff, wpost0, wpost1, wpost2, wpost3, wpost4, ite_self, ite_true, ite_false, if_true, if_false, bin_fgeq, bin_fsub, bin_fgtr, bin_fmul, bin_fadd, bin_fquo, un_fneg, fr68, wrap_int, wrap_u8, iteP_yes, iteP_no, g4, g5, g6, g7, g8, k1, k2] | refine iteP_two (fun hc hd => ?_) (fun hc hd => ?_) | refine iteP_intro (fun hc => ?_) (fun hc => ?_))
          refine ⟨8 - (j + 1), by omega, j + 1, rfl, by omega, rfl, rfl⟩
        · have : j = 8 := by omega
          subst this
          have k1 := kb_end
          unfold fOne at k1
          (repeat' first | simp -dsimp (disch := first | omega | assumption | (refine OkS.sto ?_ (by omega); first | assumption | (refine OkS.sto ?_ (by omega); first | assumption | (refine OkS.sto ?_ (by omega); first | assumption | (refine OkS.sto ?_ (by omega); first | assumption | (refine OkS.sto ?_ (by omega); first | assumption | (refine OkS.sto ?_ (by omega); first | assumption)))))) | exact Pfx.refl _ | (apply Pfx.snoc; repeat (first | exact Pfx.refl _ | assumption | apply Pfx.snoc)) | with_unfolding_all exact of_eq_true (eq_true rfl) | (simp only [List.length_append, List.length_cons, List.length_nil]; omega)) only [↓wpre0, ↓wpre1, ↓reduceIte, Int.reduceToNat, Nat.reduceAdd, Nat.reduceMul, Nat.reduceEqDiff, wpost0, wpost1, wpost2, wpost3, wpost4, ite_self, ite_true, ite_false, if_true, if_false, bin_fgeq, bin_fsub, bin_fgtr, bin_fmul, bin_fadd, bin_fquo, un_fneg, fr68, wrap_int, wrap_u8, iteP_yes, iteP_no, g4, g5, g6, g7, g8, k1] | refine iteP_two (fun hc hd => ?_) (fun hc hd => ?_) | refine iteP_intro (fun hc => ?_) (fun hc => ?_))
  · cases hg : fcmp .lss .f64 fQuarter f1
    · rw [hg] at hf2
      simp only [Bool.false_eq_true, if_false, if_true] at hf1 hf2 ⊢
      subst hf2
      obtain ⟨z, hz⟩ : ∃ z, z = farith .mul .f64 f2 fFull := ⟨_, rfl⟩
      obtain ⟨u, hu⟩ : ∃ u, u = farith .mul .f64 z z := ⟨_, rfl⟩
      rw [← hz, ← hu]
      have q1 := htd.symm
      have q2 := hg
      have q3 := hz.symm
      have q4 := hu.symm
      have q5 := hf1.symm
      simp only [fHalf, fQuarter, fFull] at q1 q2 q3 q5
      (repeat' first | simp -dsimp (disch := first | omega | assumption | (refine OkS.sto ?_ (by omega); first | assumption | (refine OkS.sto ?_ (by omega); first | assumption | (refine OkS.sto ?_ (by omega); first | assumption | (refine OkS.sto ?_ (by omega); first | assumption | (refine OkS.sto ?_ (by omega); first | assumption | (refine OkS.sto ?_ (by omega); first | assumption)))))) | exact Pfx.refl _ | (apply Pfx.snoc; repeat (first | exact Pfx.refl _ | assumption | apply Pfx.snoc)) | with_unfolding_all exact of_eq_true (eq_true rfl) | (simp only [List.length_append, List.length_cons, List.length_nil]; omega)) only [↓wpre0, ↓wpre1, ↓reduceIte, Int.reduceToNat, Nat.reduceAdd, Nat.reduceMul, Nat.reduceEqDiff, wpost0, wpost1, wpost2, wpost3, wpost4, ite_self, ite_true, ite_false, if_true, if_false, bin_fgeq, bin_fsub, bin_fgtr, bin_fmul, bin_fadd, bin_fquo, un_fneg, fr68, wrap_int, wrap_u8, iteP_yes, iteP_no, fraction_r hX hf, q1, q2, q3, q4, q5] | refine iteP_two (fun hc hd => ?_) (fun hc hd => ?_) | refine iteP_intro (fun hc => ?_) (fun hc => ?_))
      refine loop_rounds (fun mm e h' => ∃ j : Nat, mm = 8 - j ∧ j ≤ 8 ∧ h' = h ∧ e 4 = .bool true ∧ e 5 = .float .f64 z ∧ e 6 = .float .f64 u ∧ e 7 = .float .f64 (pj u j) ∧ e 8 = .float .f64 (kb j)) _ ⟨0, rfl, ?_⟩ ?_
      · simp only [updO_at, updO_not, entry_at, List.getD_cons_zero, List.getD_cons_succ, ↓reduceIte, Nat.reduceEqDiff, true_and, and_true]
        exact ⟨by omega, rfl, k0⟩
      · rintro mm e h' ⟨j, hmm, hj, rfl, g4, g5, g6, g7, g8⟩
        by_cases hj8 : j < 8
        · have k1 := kb_ge j hj8
          have k2 := kb_next j hj8
          unfold fOne at k1 k2
          (repeat' first | simp -dsimp (disch := first | omega | assumption | (refine OkS.sto ?_ (by omega); first | assumption | (refine OkS.sto ?_ (by omega); first | assumption | (refine OkS.sto ?_ (by omega); first | assumption | (refine OkS.sto ?_ (by omega); first | assumption | (refine OkS.sto ?_ (by omega); first | assumption | (refine OkS.sto ?_ (by omega); first | assumption)))))) | exact Pfx.refl _ | (apply Pfx.snoc; repeat (first | exact Pfx.refl _ | assumption | apply Pfx.snoc)) | with_unfolding_all exact of_eq_true (eq_true rfl) | (simp only [List.length_append, List.length_cons, List.length_nil]; omega)) only [↓wpre0, ↓wpre1, ↓reduceIte, Int.reduceToNat, Nat.reduceAdd, Nat.reduceMul, Nat.reduceEqDiff, wpost0, wpost1, wpost2, wpost3, wpost4, ite_self, ite_true, ite_false, if_true, if_false, bin_fgeq, bin_fsub, bin_fgtr, bin_fmul, bin_fadd, bin_fquo, un_fneg, fr68, wrap_int, wrap_u8, iteP_yes, iteP_no, g4, g5, g6, g7, g8, k1, k2] | refine iteP_two (fun hc hd => ?_) (fun hc hd => ?_) | refine iteP_intro (fun hc => ?_) (fun hc => ?_))
          refine ⟨8 - (j + 1), by omega, j + 1, rfl, by omega, rfl, rfl⟩
        · have : j = 8 := by omega
          subst this
          have k1 := kb_end
          unfold fOne at k1
          (repeat' first | simp -dsimp (disch := first | omega | assumption | (refine OkS.sto ?_ (by omega); first | assumption | (refine OkS.sto ?_ (by omega); first | assumption | (refine OkS.sto ?_ (by omega); first | assumption | (refine OkS.sto ?_ (by omega); first | assumption | (refine OkS.sto ?_ (by omega); first | assumption | (refine OkS.sto ?_ (by omega); first | assumption)))))) | exact Pfx.refl _ | (apply Pfx.snoc; repeat (first | exact Pfx.refl _ | assumption | apply Pfx.snoc)) | with_unfolding_all exact of_eq_true (eq_true rfl) | (simp only [List.length_append, List.length_cons, List.length_nil]; omega)) only [↓wpre0, ↓wpre1, ↓reduceIte, Int.reduceToNat, Nat.reduceAdd, Nat.reduceMul, Nat.reduceEqDiff, wpost0, wpost1, wpost2, wpost3, wpost4, ite_self, ite_true, ite_false, if_true, if_false, bin_fgeq, bin_fsub, bin_fgtr, bin_fmul, bin_fadd, bin_fquo, un_fneg, fr68, wrap_int, wrap_u8, iteP_yes, iteP_no, g4, g5, g6, g7, g8, k1] | refine iteP_two (fun hc hd => ?_) (fun hc hd => ?_) | refine iteP_intro (fun hc => ?_) (fun hc => ?_))
    · rw [hg] at hf2
      simp only [Bool.false_eq_true, if_false, if_true] at hf1 hf2 ⊢
      obtain ⟨z, hz⟩ : ∃ z, z = farith .mul .f64 f2 fFull := ⟨_, rfl⟩
      obtain ⟨u, hu⟩ : ∃ u, u = farith .mul .f64 z z := ⟨_, rfl⟩
      rw [← hz, ← hu]
      have q1 := htd.symm
      have q2 := hg
      have q3 := hz.symm
      have q4 := hu.symm
      have q5 := hf1.symm
      have q6 := hf2.symm
      simp only [fHalf, fQuarter, fFull] at q1 q2 q3 q5 q6
      (repeat' first | simp -dsimp (disch := first | omega | assumption | (refine OkS.sto ?_ (by omega); first | assumption | (refine OkS.sto ?_ (by omega); first | assumption | (refine OkS.sto ?_ (by omega); first | assumption | (refine OkS.sto ?_ (by omega); first | assumption | (refine OkS.sto ?_ (by omega); first | assumption | (refine OkS.sto ?_ (by omega); first | assumption)))))) | exact Pfx.refl _ | (apply Pfx.snoc; repeat (first | exact Pfx.refl _ | assumption | apply Pfx.snoc)) | with_unfolding_all exact of_eq_true (eq_true rfl) | (simp only [List.length_append, List.length_cons, List.length_nil]; omega)) only [↓wpre0, ↓wpre1, ↓reduceIte, Int.reduceToNat, Nat.reduceAdd, Nat.reduceMul, Nat.reduceEqDiff, wpost0, wpost1, wpost2, wpost3, wpost4, ite_self, ite_true, ite_false, if_true, if_false, bin_fgeq, bin_fsub, bin_fgtr, bin_fmul, bin_fadd, bin_fquo, un_fneg, fr68, wrap_int, wrap_u8, iteP_yes, iteP_no, fraction_r hX hf, q1, q2, q3, q4, q5, q6] | refine iteP_two (fun hc hd => ?_) (fun hc hd => ?_) | refine iteP_intro (fun hc => ?_) (fun hc => ?_))
      refine loop_rounds (fun mm e h' => ∃ j : Nat, mm = 8 - j ∧ j ≤ 8 ∧ h' = h ∧ e 4 = .bool true ∧ e 5 = .float .f64 z ∧ e 6 = .float .f64 u ∧ e 7 = .float .f64 (pj u j) ∧ e 8 = .float .f64 (kb j)) _ ⟨0, rfl, ?_⟩ ?_
      · simp only [updO_at, updO_not, entry_at, List.getD_cons_zero, List.getD_cons_succ, ↓reduceIte, Nat.reduceEqDiff, true_and, and_true]
        exact ⟨by omega, rfl, k0⟩
      · rintro mm e h' ⟨j, hmm, hj, rfl, g4, g5, g6, g7, g8⟩
        by_cases hj8 : j < 8
        · have k1 := kb_ge j hj8
          have k2 := kb_next j hj8
          unfold fOne at k1 k2
          (repeat' first | simp -dsimp (disch := first | omega | assumption | (refine OkS.sto ?_ (by omega); first | assumption | (refine OkS.sto ?_ (by omega); first | assumption | (refine OkS.sto ?_ (by omega); first | assumption | (refine OkS.sto ?_ (by omega); first | assumption | (refine OkS.sto ?_ (by omega); first | assumption | (refine OkS.sto ?_ (by omega); first | assumption)))))) | exact Pfx.refl _ | (apply Pfx.snoc; repeat (first | exact Pfx.refl _ | assumption | apply Pfx.snoc)) | with_unfolding_all exact of_eq_true (eq_true rfl) | (simp only [List.length_append, List.length_cons, List.length_nil]; omega)) only [↓wpre0, ↓wpre1, ↓reduceIte, Int.reduceToNat, Nat.reduceAdd, Nat.reduceMul, Nat.reduceEqDiff, wpost0, wpost1, wpost2, wpost3, wpost4, ite_self, ite_true, ite_false, if_true, if_false, bin_fgeq, bin_fsub, bin_fgtr, bin_fmul, bin_fadd, bin_fquo, un_fneg, fr68, wrap_int, wrap_u8, iteP_yes, iteP_no, g4, g5, g6, g7, g8, k1, k2] | refine iteP_two (fun hc hd => ?_) (fun hc hd => ?_) | refine iteP_intro (fun hc => ?_) (fun hc => ?_))
          refine ⟨8 - (j + 1), by omega, j + 1, rfl, by omega, rfl, rfl⟩
        · have : j = 8 := by omega
          subst this
          have k1 := kb_end
          unfold fOne at k1
          (repeat' first | simp -dsimp (disch := first | omega | assumption | (refine OkS.sto ?_ (by omega); first | assumption | (refine OkS.sto ?_ (by omega); first | assumption | (refine OkS.sto ?_ (by omega); first | assumption | (refine OkS.sto ?_ (by omega); first | assumption | (refine OkS.sto ?_ (by omega); first | assumption | (refine OkS.sto ?_ (by omega); first | assumption)))))) | exact Pfx.refl _ | (apply Pfx.snoc; repeat (first | exact Pfx.refl _ | assumption | apply Pfx.snoc)) | with_unfolding_all exact of_eq_true (eq_true rfl) | (simp only [List.length_append, List.length_cons, List.length_nil]; omega)) only [↓wpre0, ↓wpre1, ↓reduceIte, Int.reduceToNat, Nat.reduceAdd, Nat.reduceMul, Nat.reduceEqDiff, wpost0, wpost1, wpost2, wpost3, wpost4, ite_self, ite_true, ite_false, if_true, if_false, bin_fgeq, bin_fsub, bin_fgtr, bin_fmul, bin_fadd, bin_fquo, un_fneg, fr68, wrap_int, wrap_u8, iteP_yes, iteP_no, g4, g5, g6, g7, g8, k1] | refine iteP_two (fun hc hd => ?_) (fun hc hd => ?_) | refine iteP_intro (fun hc => ?_) (fun hc => ?_))
end Go.Proofs.Ytkhipobafchilaa.Sim

/- Phasors: values and bounds of fractions, sines and steps. Lemmas only; no condition. -/
set_option linter.unusedSimpArgs false
set_option linter.unusedVariables false
set_option maxRecDepth 8000
namespace Go.Proofs.Ytkhipobafchilaa.Sim.Fl
open Ieee Go
theorem pow_cut {a b c : Nat} (h : a = b + c) : 2 ^ a = 2 ^ b * 2 ^ c := by rw [h, Nat.pow_add]
theorem mul_pow_le {a b n m : Nat} (h : a ≤ 2 ^ b) (e : n = b + m) : a * 2 ^ m ≤ 2 ^ n := by rw [e, Nat.pow_add]; exact Nat.mul_le_mul_right _ h
theorem sg_sign {s : Bool} {q e t : Nat} {n : Int} (hn : n ≠ 0) (hv : n * 2 ^ t = sg s q * 2 ^ e) : s = decide (n < 0) := by
  have hp := pow_pos t
  have hp2 := pow_pos e
  rcases Int.lt_or_le n 0 with w | w
  · have h1 := Int.mul_neg_of_neg_of_pos w hp
    rw [hv] at h1
    cases s
    · exfalso
      have : (0 : Int) ≤ sg false q := by simp [sg]
      have := Int.mul_nonneg this (Int.le_of_lt hp2)
      omega
    · simp [w]
  · have h1 := Int.mul_pos (show 0 < n by omega) hp
    rw [hv] at h1
    cases s
    · simp; omega
    · exfalso
      have : sg true q ≤ 0 := by simp [sg]
      have := Int.mul_nonneg (Int.neg_nonneg_of_nonpos this) (Int.le_of_lt hp2)
      rw [Int.neg_mul] at this
      omega
/-- A quotient by a power of two, exactly. -/
theorem quo_fx {k : FloatKind} {a b t1 d e2 t : Nat} {n : Int} (ha : fin k a (n * 2 ^ t1)) (hb : k.decode b = .number false (2 ^ d) (lp k + e2)) (hd : d ≤ k.format.fractionBits) (ht : (t : Int) + d + e2 = t1 - lp k) (h : n.natAbs < 2 ^ dig k) (hT : n.natAbs * 2 ^ t < 2 ^ top k) : fin k (farith .quo k a b) (n * 2 ^ t) := by
  obtain ⟨s1, m, e1, d1, v1⟩ := ha
  obtain ⟨hm, _⟩ := read_mag d1
  have hn0 : 2 ^ d ≠ 0 := Nat.ne_of_gt (Nat.two_pow_pos d)
  obtain ⟨more, hmore⟩ : ∃ more, more = k.format.fractionBits + 2 + (2 ^ d).log2 - m.log2 := ⟨_, rfl⟩
  have hdm : d ≤ more := by
    rw [Nat.log2_two_pow] at hmore
    have hdg : dig k = k.format.fractionBits + 1 := by cases k <;> rfl
    have : m.log2 < dig k := by
      by_cases q : m = 0
      · subst q
        rw [hdg]
        have : Nat.log2 0 = 0 := by decide
        omega
      · exact (Nat.log2_lt q).2 hm
    omega
  have e3 : more = (more - d) + d := by omega
  have hdiv : m <<< more / 2 ^ d = m * 2 ^ (more - d) := by
    rw [Nat.shiftLeft_eq]
    conv => lhs; rw [e3]
    rw [Nat.pow_add, ← Nat.mul_assoc, Nat.mul_div_cancel _ (Nat.two_pow_pos d)]
  have hrem : m <<< more % 2 ^ d = 0 := by
    rw [Nat.shiftLeft_eq]
    conv => lhs; rw [e3]
    rw [Nat.pow_add, ← Nat.mul_assoc, Nat.mul_mod_left]
  have hq : floatBits .quo k a b = some (k.encode (.number s1 (2 * (m * 2 ^ (more - d))) (lp k + e1 - (lp k + e2) - more - 1))) := by
    show (((k.decode a).quotient (k.format.fractionBits + 2) (k.decode b)).map k.format.write) = _
    rw [d1, hb]
    simp only [Datum.quotient, if_neg hn0, ← hmore, hdiv, hrem, bne_self_eq_false, Bool.toNat_false, Nat.add_zero, Bool.xor_false]
    rfl
  have habs : m * 2 ^ e1 = n.natAbs * 2 ^ t1 := by
    have := congrArg Int.natAbs v1
    rw [abs_mul_pow, abs_mul_pow, sg_abs] at this
    exact this.symm
  have hw := write_exact k s1 (mag := 2 * (m * 2 ^ (more - d))) (N := n.natAbs) (a := e1) (b := t1 + (more - d) + 1) (t := t) (place := lp k + e1 - (lp k + e2) - more - 1) (by
    calc 2 * (m * 2 ^ (more - d)) * 2 ^ e1 = (m * 2 ^ e1) * 2 ^ (more - d) * 2 := by simp only [Nat.mul_comm, Nat.mul_left_comm, Nat.mul_assoc]
      _ = n.natAbs * 2 ^ (t1 + (more - d) + 1) := by rw [habs, Nat.pow_succ, Nat.pow_add]; simp only [Nat.mul_assoc]) (by omega) h hT
  rw [sg_of n (fun h0 => sg_sign h0 v1)] at hw
  exact fin_arith hq hw
theorem cut_zero (s : Bool) (n d : Nat) : Toward.zero.cut s n d = n / 2 ^ d := by
  unfold Toward.cut
  simp only [Bool.toNat_false, Nat.add_zero, Nat.shiftLeft_eq, Nat.one_mul]
  rcases Nat.lt_or_ge d (n.log2 + 2) with q | q
  · rw [Nat.min_eq_left (by omega)]
  · rw [Nat.min_eq_right q, Nat.div_eq_of_lt, Nat.div_eq_of_lt]
    · exact Nat.lt_of_lt_of_le Nat.lt_log2_self (Nat.pow_le_pow_right (by decide) (by omega))
    · exact Nat.lt_of_lt_of_le Nat.lt_log2_self (Nat.pow_le_pow_right (by decide) (by omega))
/-- The whole part of a float. -/
theorem toInt_fx {b t c : Nat} {n : Int} (h : fin .f64 b (n * 2 ^ t)) (ht : t + c = 1074) (hn : n.natAbs < 1099511627776) : ∃ z, floatToIntVal .f64 b .i64 = some z ∧ z.natAbs = n.natAbs / 2 ^ c ∧ (0 ≤ n → 0 ≤ z) ∧ (n ≤ 0 → z ≤ 0) := by
  obtain ⟨s, m, e, d, v⟩ := h
  have habs : m * 2 ^ e = n.natAbs * 2 ^ t := by
    have := congrArg Int.natAbs v
    rw [abs_mul_pow, abs_mul_pow, sg_abs] at this
    exact this.symm
  have hlp : lp .f64 = -1074 := by decide
  have hcut : Toward.zero.cut s (m <<< (lp .f64 + (e : Int)).toNat) (-(lp .f64 + (e : Int))).toNat = n.natAbs / 2 ^ c := by
    rw [cut_zero, Nat.shiftLeft_eq, hlp]
    obtain ⟨i, hi⟩ : ∃ i, i = (-1074 + (e : Int)).toNat := ⟨_, rfl⟩
    obtain ⟨j, hj⟩ : ∃ j, j = (-(-1074 + (e : Int))).toNat := ⟨_, rfl⟩
    obtain ⟨g, hg⟩ : ∃ g, g = min e 1074 := ⟨_, rfl⟩
    rw [← hi, ← hj, ← Nat.mul_div_mul_right (m * 2 ^ i) (2 ^ j) (Nat.two_pow_pos g), ← Nat.mul_div_mul_right n.natAbs (2 ^ c) (Nat.two_pow_pos t), Nat.mul_assoc, ← Nat.pow_add, ← Nat.pow_add, ← Nat.pow_add, show i + g = e by omega, show j + g = c + t by omega, habs]
  have hi : (FloatKind.f64.decode b).toInt .zero = some (sg s (n.natAbs / 2 ^ c)) := by
    rw [d]
    simp only [Datum.toInt, Datum.integral, signed_eq, hcut, Int.pow_zero, Int.mul_one]
  have hle : n.natAbs / 2 ^ c ≤ n.natAbs := Nat.div_le_self _ _
  have habs2 : (sg s (n.natAbs / 2 ^ c)).natAbs = n.natAbs / 2 ^ c := sg_abs _ _
  refine ⟨sg s (n.natAbs / 2 ^ c), ?_, habs2, fun h0 => ?_, fun h0 => ?_⟩
  · unfold floatToIntVal
    rw [hi]
    have e1 : IntKind.i64.min = -9223372036854775808 := by decide
    have e2 : IntKind.i64.max = 9223372036854775807 := by decide
    simp only [e1, e2]
    rw [if_pos (by omega)]
  · by_cases q : n = 0
    · subst q; simp [sg]
    · rw [sg_sign q v, decide_eq_false (by omega)]; simp [sg]; exact Int.natCast_nonneg _
  · by_cases q : n = 0
    · subst q; simp [sg]
    · rw [sg_sign q v, decide_eq_true (by omega)]
      simp only [sg, if_true]
      omega
theorem lit_fin {k : FloatKind} {b m e n t : Nat} (d : k.decode b = .number false m (lp k + e)) (h : m * 2 ^ e = n * 2 ^ t) : fin k b ((n : Int) * 2 ^ t) := by
  refine ⟨false, m, e, d, ?_⟩
  have := congrArg (fun n : Nat => (n : Int)) h
  simp only [Int.natCast_mul, Int.natCast_pow] at this
  simp only [sg, Bool.false_eq_true, if_false]
  exact this.symm
theorem one_fin : fin .f64 fOne (((4096 : Nat) : Int) * 2 ^ 1062) := lit_fin (m := 2 ^ 52) (e := 1022) (by decide +kernel) (by decide +kernel)
theorem half_fin : fin .f64 fHalf (((2048 : Nat) : Int) * 2 ^ 1062) := lit_fin (m := 2 ^ 52) (e := 1021) (by decide +kernel) (by decide +kernel)
theorem quarter_fin : fin .f64 fQuarter (((1024 : Nat) : Int) * 2 ^ 1062) := lit_fin (m := 2 ^ 52) (e := 1020) (by decide +kernel) (by decide +kernel)
theorem zero_fin64 : fin .f64 0 0 := ⟨false, 0, 0, by decide +kernel, by decide⟩
theorem small_top {n : Int} {t : Nat} (hn : n.natAbs < 2 ^ 40) (ht : t ≤ 2000) : n.natAbs * 2 ^ t < 2 ^ top .f64 := by
  refine Nat.lt_of_lt_of_le (Nat.mul_lt_mul_of_pos_right hn (Nat.two_pow_pos t)) ?_
  rw [← Nat.pow_add]
  exact Nat.pow_le_pow_right (by decide) (show 40 + t ≤ 2098 by omega)
theorem small_dig {n : Int} (hn : n.natAbs < 2 ^ 40) : n.natAbs < 2 ^ dig .f64 := Nat.lt_of_lt_of_le hn (Nat.pow_le_pow_right (by decide) (by decide))
/-- The greatness of units: so many 4096ths, so far as a comparison goes. -/
theorem u_lt {a b : Int} {t : Nat} : a * 2 ^ t < b * 2 ^ t ↔ a < b := ⟨fun h => Int.lt_of_mul_lt_mul_right h (Int.le_of_lt (pow_pos t)), fun h => Int.mul_lt_mul_of_pos_right h (pow_pos t)⟩
theorem u_le {a b : Int} {t : Nat} : a * 2 ^ t ≤ b * 2 ^ t ↔ a ≤ b := ⟨fun h => Int.le_of_mul_le_mul_right h (pow_pos t), fun h => Int.mul_le_mul_of_nonneg_right h (Int.le_of_lt (pow_pos t))⟩
/-- A number of 4096ths, as a float. -/
def in4096 (b : Nat) (n : Int) : Prop := fin .f64 b (n * 2 ^ 1062)
theorem in_lt {a b : Nat} {n m : Int} (ha : in4096 a n) (hb : in4096 b m) : fcmp .lss .f64 a b = decide (n < m) := by
  rw [cmp_lt ha hb]
  exact decide_eq_decide.2 u_lt
theorem in_le {a b : Nat} {n m : Int} (ha : in4096 a n) (hb : in4096 b m) : fcmp .leq .f64 a b = decide (n ≤ m) := by
  rw [cmp_le ha hb]
  exact decide_eq_decide.2 u_le
theorem in_zero : in4096 0 0 := by
  unfold in4096
  rw [Int.zero_mul]
  exact zero_fin64
theorem in_add {a b : Nat} {n m : Int} (ha : in4096 a n) (hb : in4096 b m) (h : (n + m).natAbs < 2 ^ 40) : in4096 (farith .add .f64 a b) (n + m) := add_fx (t := 1062) ha hb (small_dig h) (small_top (t := 1062) h (by decide))
theorem in_sub {a b : Nat} {n m : Int} (ha : in4096 a n) (hb : in4096 b m) (h : (n - m).natAbs < 2 ^ 40) : in4096 (farith .sub .f64 a b) (n - m) := sub_fx (t := 1062) ha hb (small_dig h) (small_top (t := 1062) h (by decide))
theorem in_int {z : Int} (h : z.natAbs < 2 ^ 27) : in4096 (cf .f64 (FloatKind.f64.nearest z)) (z * 4096) := by
  have := nearest_fx .f64 (n := z) (Nat.lt_of_lt_of_le h (by decide))
  unfold in4096
  rw [Int.mul_assoc, show (4096 : Int) * 2 ^ 1062 = 2 ^ 1074 by rw [show (4096 : Int) = 2 ^ 12 by decide, ← Int.pow_add]]
  exact this
/-- So many steps, as a number of turns. -/
def stF (s : Int) : Nat := farith .quo .f64 (cf .f64 (FloatKind.f64.nearest s)) 4661225614328463360
theorem stF_in {s : Int} (h : s.natAbs < 2 ^ 27) : in4096 (stF s) s :=
  quo_fx (k := .f64) (d := 52) (e2 := 1034) (t1 := 1074) (t := 1062) (nearest_fx .f64 (n := s) (Nat.lt_of_lt_of_le h (by decide))) (by decide +kernel) (by decide) (by decide) (Nat.lt_of_lt_of_le h (by decide)) (small_top (t := 1062) (Nat.lt_of_lt_of_le h (by decide)) (by decide))
theorem frF_in {x : Nat} {s : Int} (h : in4096 x s) (hs : s.natAbs < 2 ^ 27) : ∃ f, frF x = some f ∧ in4096 f (s % 4096) := by
  have h40 : (2 : Nat) ^ 40 = 1099511627776 := by decide
  have h27 : (2 : Nat) ^ 27 = 134217728 := by decide
  rw [h27] at hs
  obtain ⟨z, hz, z1, z2, z3⟩ := toInt_fx (c := 12) h (by decide) (by omega)
  rw [show (2 : Nat) ^ 12 = 4096 by decide] at z1
  have hi := in_sub h (in_int (z := z) (by omega)) (by omega)
  have hc := in_lt hi in_zero
  by_cases q : s - z * 4096 < 0
  · refine ⟨farith .add .f64 (farith .sub .f64 x (cf .f64 (FloatKind.f64.nearest z))) fOne, by unfold frF; rw [hz, Option.map_some]; simp only [hc, decide_eq_true q, if_true], ?_⟩
    have := in_add hi one_fin (by omega)
    have e : s - z * 4096 + ((4096 : Nat) : Int) = s % 4096 := by omega
    rw [e] at this
    exact this
  · refine ⟨farith .sub .f64 x (cf .f64 (FloatKind.f64.nearest z)), by unfold frF; rw [hz, Option.map_some]; simp only [hc, decide_eq_false q, Bool.false_eq_true, if_false], ?_⟩
    have e : s - z * 4096 = s % 4096 := by omega
    rw [e] at hi
    exact hi
/-! ### How great sines are -/
def bigB (k : FloatKind) (w b : Nat) : Bool := match k.decode b with | .number s n p => decide (lp k ≤ p) && decide (2 ^ w ≤ n * 2 ^ (p - lp k).toNat) | _ => false
theorem big_of {k : FloatKind} {w b : Nat} (h : bigB k w b = true) : big k w b := by
  unfold bigB at h
  split at h
  · rename_i s n p d
    simp only [Bool.and_eq_true, decide_eq_true_eq] at h
    exact ⟨s, n, (p - lp k).toNat, by rw [d]; congr 1; omega, h.2⟩
  · cases h
def den (j : Nat) : Nat := farith .mul .f64 (farith .mul .f64 fTwo (kb j)) (farith .add .f64 (farith .mul .f64 fTwo (kb j)) fOne)
theorem den_big : ∀ j, j < 7 → bigB .f64 1078 (den j) = true := by decide +kernel
theorem den_last : bigB .f64 1076 (den 7) = true := by decide +kernel
theorem one_bd : bd .f64 1074 fOne := one_fin.bd (by
  rw [abs_mul_pow]
  exact mul_pow_le (n := 1074) (b := 12) (m := 1062) (by decide) rfl)
theorem full_bd : bd .f64 1077 fFull := by
  refine ⟨_, ⟨false, 7074237752028440, 1024, by decide +kernel, rfl⟩, ?_⟩
  rw [abs_mul_pow, sg_abs]
  exact mul_pow_le (a := 7074237752028440) (n := 1077) (b := 53) (m := 1024) (by decide) rfl
theorem pj_bd {u : Nat} (hu : bd .f64 1076 u) : ∀ j, j ≤ 7 → bd .f64 1075 (pj u j)
  | 0, _ => one_bd.mono (by decide)
  | j + 1, h => by
    have ih := pj_bd hu j (by omega)
    have g1 : bd .f64 1077 (farith .mul .f64 u (pj u j)) := mul_bd hu ih (by decide) (by decide)
    have g2 : bd .f64 1073 (farith .quo .f64 (farith .mul .f64 u (pj u j)) (den j)) := quo_bd g1 (big_of (den_big j (by omega))) (by decide) (by decide)
    exact sub_bd one_bd (g2.mono (by decide)) (by decide)
theorem pj_last {u : Nat} (hu : bd .f64 1076 u) : bd .f64 1076 (pj u 8) := by
  have ih := pj_bd hu 7 (Nat.le_refl _)
  have g1 : bd .f64 1077 (farith .mul .f64 u (pj u 7)) := mul_bd hu ih (by decide) (by decide)
  have g2 : bd .f64 1075 (farith .quo .f64 (farith .mul .f64 u (pj u 7)) (den 7)) := quo_bd g1 (big_of den_last) (by decide) (by decide)
  exact sub_bd (one_bd.mono (by decide)) g2 (by decide)
theorem in_bd {b : Nat} {n : Int} (h : in4096 b n) (h0 : 0 ≤ n) (h1 : n ≤ 1024) : bd .f64 1072 b := fin.bd h (by
  rw [abs_mul_pow]
  exact mul_pow_le (n := 1072) (b := 10) (m := 1062) (by omega) rfl)
theorem sinG_bd {f : Nat} {n : Int} (h : in4096 f n) (h0 : 0 ≤ n) (h1 : n ≤ 1024) : bd .f64 1077 (sinG f) := by
  have c1 : fcmp .leq .f64 fHalf f = false := by rw [in_le half_fin h]; exact decide_eq_false (by omega)
  have c2 : fcmp .lss .f64 fQuarter f = false := by rw [in_lt quarter_fin h]; exact decide_eq_false (by omega)
  unfold sinG
  simp only [c1, c2, Bool.false_eq_true, if_false]
  have z : bd .f64 1075 (farith .mul .f64 f fFull) := mul_bd (in_bd h h0 h1) full_bd (by decide) (by decide)
  have u : bd .f64 1076 (farith .mul .f64 (farith .mul .f64 f fFull) (farith .mul .f64 f fFull)) := mul_bd z z (by decide) (by decide)
  exact mul_bd z (pj_last u) (by decide) (by decide)
/-! ### Absolute values -/
theorem farith_lt (op : BinOp) (a b : Nat) : farith op .f64 a b < 2 ^ 64 := by
  have hn : nanOf .f64 < 2 ^ 64 := by decide +kernel
  have hc : ∀ b, b < 2 ^ 64 → cf .f64 b < 2 ^ 64 := by
    intro b h
    unfold cf
    split
    · exact hn
    · exact h
  unfold farith
  refine hc _ ?_
  cases e : floatBits op .f64 a b with
  | none => exact hn
  | some r =>
    have := floatBits_wf e
    simp [Lit.wf] at this
    rw [Option.getD_some]
    omega
theorem abs_decode {b m : Nat} {s : Bool} {p : Int} (h : FloatKind.f64.decode b = .number s m p) : FloatKind.f64.decode (b % 9223372036854775808) = .number false m p := by
  have hs : FloatKind.f64.format.signWeight = 9223372036854775808 := by decide
  unfold FloatKind.decode Format.read at h ⊢
  simp only [hs, Nat.mod_mod] at h ⊢
  have h2 : (b % 9223372036854775808 / 9223372036854775808 % 2 == 1) = false := by
    rw [Nat.div_eq_of_lt (Nat.mod_lt _ (by decide))]; rfl
  rw [h2]
  split at h
  · rename_i hb
    rw [if_pos hb]
    rw [Datum.number.injEq] at h
    rw [h.2.1, h.2.2]
  · split at h
    · rename_i hb hi
      rw [if_neg hb, if_pos hi]
      rw [Datum.number.injEq] at h
      rw [h.2.1, h.2.2]
    · split at h <;> cases h
theorem abs_bits {b : Nat} (h : b < 2 ^ 64) : (IntKind.u64.wrap ((BitVec.ofInt IntKind.u64.bits (b : Int) &&& ~~~(BitVec.ofInt IntKind.u64.bits 9223372036854775808)).toNat : Int)) = ((b % 9223372036854775808 : Nat) : Int) := by
  have e : (BitVec.ofInt IntKind.u64.bits (b : Int) &&& ~~~(BitVec.ofInt IntKind.u64.bits 9223372036854775808)).toNat = b % 9223372036854775808 := by
    show (BitVec.ofInt 64 (b : Int) &&& ~~~(BitVec.ofInt 64 ((9223372036854775808 : Nat) : Int))).toNat = _
    rw [BitVec.toNat_and, BitVec.toNat_not, bv_nat _ (by omega), bv_nat _ (by omega)]
    show b &&& (2 ^ 64 - 1 - 9223372036854775808) = _
    rw [show 2 ^ 64 - 1 - 9223372036854775808 = 2 ^ 63 - 1 by decide, Nat.and_two_pow_sub_one_eq_mod]
  rw [e, wrap_u64 (by omega) (by omega)]
/-! ### Sums of many numbers -/
theorem write_le (k : FloatKind) (neg : Bool) {mag N a s u : Nat} {place : Int} (h : mag * 2 ^ a ≤ N * 2 ^ s) (hN : N < 2 ^ dig k) (hp : place - a = lp k + u - s) (hu : u + dig k ≤ mx k) : ∃ v, fin k (k.encode (.number neg mag place)) v ∧ v.natAbs ≤ N * 2 ^ u := by
  have hb : mag * 2 ^ a ≤ 2 ^ (s + dig k) := by
    refine Nat.le_trans h ?_
    rw [Nat.pow_add, Nat.mul_comm]
    exact Nat.mul_le_mul_left _ (Nat.le_of_lt hN)
  obtain ⟨kept, c, h1, h2, h3, h4, h5⟩ := write_round k neg hb (u := u + dig k) (place := place) (by omega) hu
  refine ⟨_, h1, ?_⟩
  rw [abs_mul_pow, sg_abs]
  by_cases hm : mag = 0
  · rw [h4 hm, Nat.zero_mul]; exact Nat.zero_le _
  · have hdg : dig k = k.format.fractionBits + 1 := by cases k <;> rfl
    have hlog : mag.log2 + a < dig k + s := by
      rw [← log2_mul_pow a hm]
      refine (Nat.log2_lt (Nat.mul_ne_zero hm (Nat.ne_of_gt (Nat.two_pow_pos a)))).2 (Nat.lt_of_le_of_lt h ?_)
      rw [Nat.pow_add]
      exact Nat.mul_lt_mul_of_pos_right hN (Nat.two_pow_pos s)
    have hcu : c ≤ u := by
      rcases h3 with q | ⟨_, q⟩ <;> omega
    rw [h5 hm]
    have hb : Toward.even.cut neg (mag <<< (place - (lp k + c)).toNat) (lp k + c - place).toNat ≤ N * 2 ^ (u - c) := by
      refine cut_le neg ?_
      rw [Nat.shiftLeft_eq, Nat.mul_assoc, ← Nat.pow_add]
      have hle : mag * 2 ^ a * 2 ^ (place - (lp k + c)).toNat ≤ N * 2 ^ s * 2 ^ (place - (lp k + c)).toNat := Nat.mul_le_mul_right _ h
      have e5 : s + (place - (lp k + c)).toNat = a + ((u - c) + (lp k + c - place).toNat) := by omega
      rw [Nat.mul_assoc N, ← Nat.pow_add, e5, Nat.pow_add, Nat.mul_right_comm, Nat.mul_left_comm N, Nat.mul_comm (2 ^ a)] at hle
      exact Nat.le_of_mul_le_mul_right hle (Nat.two_pow_pos a)
    refine Nat.le_trans (Nat.mul_le_mul_right _ hb) ?_
    rw [Nat.mul_assoc, ← Nat.pow_add, show u - c + c = u by omega]
    exact Nat.le_refl _
/-- A float that is at most so many units. -/
def bn (k : FloatKind) (n u : Nat) (b : Nat) : Prop := ∃ v, fin k b v ∧ v.natAbs ≤ n * 2 ^ u
theorem add_bn {k : FloatKind} {a b n m u : Nat} (ha : bn k n u a) (hb : bn k m u b) (hn : n + m < 2 ^ dig k) (hu : u + dig k ≤ mx k) : bn k (n + m) u (farith .add k a b) := by
  obtain ⟨v, ⟨s1, m1, e1, d1, rfl⟩, h1⟩ := ha
  obtain ⟨w, ⟨s2, m2, e2, d2, rfl⟩, h2⟩ := hb
  rw [abs_mul_pow, sg_abs] at h1 h2
  obtain ⟨c, hc, hc1, hc2⟩ : ∃ c : Nat, min (lp k + (e1 : Int)) (lp k + e2) = lp k + c ∧ c ≤ e1 ∧ c ≤ e2 := ⟨min e1 e2, by omega, by omega, by omega⟩
  have key : ∀ (s : Bool) (m e N : Nat), c ≤ e → m * 2 ^ e ≤ N → (sg s m * 2 ^ (e - c)).natAbs * 2 ^ c ≤ N := by
    intro s m e N hce hm
    rw [abs_mul_pow, sg_abs, Nat.mul_assoc, ← Nat.pow_add, show e - c + c = e by omega]
    exact hm
  have k1 := key s1 m1 e1 _ hc1 h1
  have k2 := key s2 m2 e2 _ hc2 h2
  have h3 := Int.natAbs_add_le (sg s1 m1 * 2 ^ (e1 - c)) (sg s2 m2 * 2 ^ (e2 - c))
  have h4 := Nat.mul_le_mul_right (2 ^ c) h3
  rw [Nat.add_mul] at h4
  have hs : floatBits .add k a b = some (k.encode (.number (if sg s1 m1 * 2 ^ (e1 - c) + sg s2 m2 * 2 ^ (e2 - c) = 0 then s1 && s2 else decide (sg s1 m1 * 2 ^ (e1 - c) + sg s2 m2 * 2 ^ (e2 - c) < 0)) (sg s1 m1 * 2 ^ (e1 - c) + sg s2 m2 * 2 ^ (e2 - c)).natAbs (lp k + c))) := by
    show (((k.decode a).sum (k.decode b)).map k.format.write) = _
    rw [d1, d2]
    simp only [Datum.sum, Option.map_some, signed_eq]
    rw [hc, show (lp k + (e1 : Int) - (lp k + c)).toNat = e1 - c by omega, show (lp k + (e2 : Int) - (lp k + c)).toNat = e2 - c by omega]
    rfl
  obtain ⟨v, g1, g2⟩ := write_le k (if sg s1 m1 * 2 ^ (e1 - c) + sg s2 m2 * 2 ^ (e2 - c) = 0 then s1 && s2 else decide (sg s1 m1 * 2 ^ (e1 - c) + sg s2 m2 * 2 ^ (e2 - c) < 0)) (mag := (sg s1 m1 * 2 ^ (e1 - c) + sg s2 m2 * 2 ^ (e2 - c)).natAbs) (N := n + m) (a := c) (s := u) (u := u) (place := lp k + c) (by rw [Nat.add_mul]; omega) hn (by omega) hu
  exact ⟨v, fin_arith hs g1, g2⟩
theorem bd.bn {k : FloatKind} {u b : Nat} (h : bd k u b) : bn k 1 u b := by
  obtain ⟨v, h1, h2⟩ := h
  exact ⟨v, h1, by rw [Nat.one_mul]; exact h2⟩
theorem bn.bd {k : FloatKind} {n u c b : Nat} (h : bn k n u b) (hn : n ≤ 2 ^ c) : bd k (c + u) b := by
  obtain ⟨v, h1, h2⟩ := h
  exact ⟨v, h1, Nat.le_trans h2 (by rw [Nat.pow_add]; exact Nat.mul_le_mul_right _ hn)⟩
end Go.Proofs.Ytkhipobafchilaa.Sim.Fl

/- Phasors as plain functions, and how great they are. Lemmas only; no condition. -/
set_option linter.unusedSimpArgs false
set_option linter.unusedVariables false
set_option maxRecDepth 8000
namespace Go.Proofs.Ytkhipobafchilaa.Sim
open Go Go.RowKit Fl
/-- A number of turns without some quarters. -/
def fqF (f : Nat) : Nat → Nat
  | 0 => f
  | j + 1 => farith .sub .f64 (fqF f j) fQuarter
def snF (x : Nat) : Nat := sinG ((frF x).getD 0)
def phB (f q : Nat) : CB :=
  let g := fqF f q
  let c := snF (farith .sub .f64 fQuarter g)
  let s := snF g
  if q = 0 then ⟨nr c, nr s⟩ else if q = 1 then ⟨nr (farith .sub .f64 0 s), nr c⟩ else if q = 2 then ⟨nr (farith .sub .f64 0 c), nr (farith .sub .f64 0 s)⟩ else ⟨nr s, nr (farith .sub .f64 0 c)⟩
/-- The phasor of so many 4096ths of a turn. -/
def PH (s : Int) : CB := phB ((frF (stF s)).getD 0) ((s % 4096).toNat / 1024)
theorem fq_in {f : Nat} {n : Int} (h : in4096 f n) (h0 : 0 ≤ n) (h1 : n < 4096) : ∀ j : Nat, j ≤ 4 → in4096 (fqF f j) (n - 1024 * j)
  | 0, _ => by
    have e : n - 1024 * ((0 : Nat) : Int) = n := by omega
    rw [e]; exact h
  | j + 1, hj => by
    have ih := fq_in h h0 h1 j (by omega)
    have h40 : (2 : Nat) ^ 40 = 1099511627776 := by decide
    have := in_sub ih quarter_fin (by rw [h40]; omega)
    have e : n - 1024 * (j : Int) - ((1024 : Nat) : Int) = n - 1024 * ((j + 1 : Nat) : Int) := by omega
    rw [e] at this
    exact this
theorem sn_ok {x : Nat} {n : Int} (h : in4096 x n) (h0 : 0 ≤ n) (h1 : n ≤ 1024) : ∃ f, frF x = some f ∧ snF x = sinG f ∧ bd .f64 1077 (snF x) := by
  obtain ⟨f, hf, hi⟩ := frF_in h (by have : (2 : Nat) ^ 27 = 134217728 := by decide
                                     rw [this]; omega)
  have e : n % 4096 = n := by omega
  rw [e] at hi
  have hs : snF x = sinG f := by unfold snF; rw [hf]; rfl
  exact ⟨f, hf, hs, by rw [hs]; exact sinG_bd hi h0 h1⟩
theorem nr_ok {b : Nat} (h : bd .f64 1078 b) : okN b ∧ bd .f32 153 (nr b) := by
  obtain ⟨r, h1, h2⟩ := narrow_bd (u := 153) h (by decide)
  obtain ⟨h3, h4⟩ := okN_of h1
  exact ⟨h3, by rw [h4]; exact h2⟩
theorem zero_bd64 (u : Nat) : bd .f64 u 0 := zero_fin64.bd (by simp)
theorem neg_ok {b : Nat} (h : bd .f64 1077 b) : bd .f64 1078 (farith .sub .f64 0 b) := sub_bd (zero_bd64 1077) h (by decide)
theorem PH_bd {s : Int} (hs : s.natAbs < 2 ^ 27) : bd .f32 153 (PH s).a ∧ bd .f32 153 (PH s).b := by
  obtain ⟨f, hf, hi⟩ := frF_in (stF_in hs) hs
  have h27 : (2 : Nat) ^ 27 = 134217728 := by decide
  rw [h27] at hs
  have e : (frF (stF s)).getD 0 = f := by rw [hf]; rfl
  unfold PH
  rw [e]
  obtain ⟨q, hq⟩ : ∃ q, q = (s % 4096).toNat / 1024 := ⟨_, rfl⟩
  rw [← hq]
  have hg := fq_in hi (by omega) (by omega) q (by omega)
  have h40 : (2 : Nat) ^ 40 = 1099511627776 := by decide
  have hc := in_sub quarter_fin hg (by rw [h40]; omega)
  obtain ⟨_, _, _, b1⟩ := sn_ok hg (by omega) (by omega)
  obtain ⟨_, _, _, b2⟩ := sn_ok hc (by omega) (by omega)
  have c1 := nr_ok (b1.mono (by decide))
  have c2 := nr_ok (b2.mono (by decide))
  have d1 := nr_ok (neg_ok b1)
  have d2 := nr_ok (neg_ok b2)
  unfold phB
  split
  · exact ⟨c2.2, c1.2⟩
  · split
    · exact ⟨d1.2, c2.2⟩
    · split
      · exact ⟨d2.2, d1.2⟩
      · exact ⟨c1.2, d2.2⟩
end Go.Proofs.Ytkhipobafchilaa.Sim

/- Phasors, walked. Lemmas only; no condition. -/
set_option linter.unusedSimpArgs false
set_option linter.unusedVariables false
set_option maxRecDepth 8000
namespace Go.Proofs.Ytkhipobafchilaa.Sim
open Go Go.RowKit Fl
variable {ro : Nat} {X : Ext} {h : Heap} {x : Nat} {s : Int}
theorem bin_andNot {P : Program} {t : TypeId} {k : IntKind} {a b : Int} : abin P .andNot t (.int k a) (.int k b) = some (.int k (k.wrap ((BitVec.ofInt k.bits a &&& ~~~BitVec.ofInt k.bits b).toNat))) := by simp [abin, rigid, pure?, binOp, Op.intBits]
theorem isFin_r (hX : XN X) (hx : in4096 x s) (h : Heap) : Ret Try.prog ro X 64 [.float .f64 x] h (.bool true) := by
  have e : fcmp .eql .f64 (farith .sub .f64 x x) 0 = true := by
    have h0 := in_sub hx hx (by rw [Int.sub_self]; decide)
    rw [Int.sub_self] at h0
    unfold in4096 at h0
    rw [Int.zero_mul] at h0
    rw [cmp_eq h0 zero_fin64]
    rfl
  refine ret_of (callR_of (hX _ rfl) Try.func64 rfl (by kernel_rfl) (Nat.le_of_ble_eq_true rfl) ?_)
  (repeat' first | simp -dsimp (disch := first | omega | assumption | (refine OkS.sto ?_ (by omega); first | assumption | (refine OkS.sto ?_ (by omega); first | assumption | (refine OkS.sto ?_ (by omega); first | assumption | (refine OkS.sto ?_ (by omega); first | assumption | (refine OkS.sto ?_ (by omega); first | assumption | (refine OkS.sto ?_ (by omega); first | assumption)))))) | exact Pfx.refl _ | (apply Pfx.snoc; repeat (first | exact Pfx.refl _ | assumption | apply Pfx.snoc)) | with_unfolding_all exact of_eq_true (eq_true rfl) | (simp only [List.length_append, List.length_cons, List.length_nil]; omega)) only [↓wpre0, ↓wpre1, ↓reduceIte, Int.reduceToNat, Nat.reduceAdd, Nat.reduceMul, Nat.reduceEqDiff, wpost0, wpost1, wpost2, wpost3, wpost4, ite_self, ite_true, ite_false, if_true, if_false, bin_fsub, bin_feql, fr64, wrap_int, wrap_u8, iteP_yes, iteP_no, e] | refine iteP_two (fun hc hd => ?_) (fun hc hd => ?_) | refine iteP_intro (fun hc => ?_) (fun hc => ?_))
/-- What an absolute value needs. -/
structure XAbs (X : Ext) : Prop where
  bits : X 73 = some (ext1 gBits)
  frm : X 72 = some (ext1 gFrom)
theorem abs_r (hX : XN X) (hA : XAbs X) {m : Nat} {sg : Bool} {p : Int} (hd : FloatKind.f64.decode x = .number sg m p) (hl : x < 2 ^ 64) (h : Heap) : Ret Try.prog ro X 66 [.float .f64 x] h (.float .f64 (x % 9223372036854775808)) := by
  have hn : (FloatKind.f64.decode x).isNaN = false := by rw [hd]; rfl
  have hc1 : Ret Try.prog ro X 73 [.float .f64 x] h (.int .u64 x) := fun _ _ => cf_eq (call_ext hA.bits (by simp only [ext1, gBits, hn, Bool.false_eq_true, if_false, Option.map_some]))
  have hcf : cf .f64 (x % 9223372036854775808) = x % 9223372036854775808 := by unfold cf; rw [abs_decode hd]; rfl
  have hc2 : Ret Try.prog ro X 72 [.int .u64 ((x % 9223372036854775808 : Nat) : Int)] h (.float .f64 (x % 9223372036854775808)) := fun _ _ => cf_eq (call_ext hA.frm (by simp only [ext1, gFrom, Option.map_some, Int.toNat_natCast, hcf]))
  have ea : ∀ t, abin Try.prog .andNot t (.int .u64 (x : Int)) (.int .u64 9223372036854775808) = some (.int .u64 ((x % 9223372036854775808 : Nat) : Int)) := fun t => by rw [bin_andNot, abs_bits hl]
  refine ret_of (callR_of (hX _ rfl) Try.func66 rfl (by kernel_rfl) (Nat.le_of_ble_eq_true rfl) ?_)
  (repeat' first | simp -dsimp (disch := first | omega | assumption | (refine OkS.sto ?_ (by omega); first | assumption | (refine OkS.sto ?_ (by omega); first | assumption | (refine OkS.sto ?_ (by omega); first | assumption | (refine OkS.sto ?_ (by omega); first | assumption | (refine OkS.sto ?_ (by omega); first | assumption | (refine OkS.sto ?_ (by omega); first | assumption)))))) | exact Pfx.refl _ | (apply Pfx.snoc; repeat (first | exact Pfx.refl _ | assumption | apply Pfx.snoc)) | with_unfolding_all exact of_eq_true (eq_true rfl) | (simp only [List.length_append, List.length_cons, List.length_nil]; omega)) only [↓wpre0, ↓wpre1, ↓reduceIte, Int.reduceToNat, Nat.reduceAdd, Nat.reduceMul, Nat.reduceEqDiff, wpost0, wpost1, wpost2, wpost3, wpost4, ite_self, ite_true, ite_false, if_true, if_false, bin_andNot, fr66, wrap_int, wrap_u8, iteP_yes, iteP_no, hc1, hc2, ea] | refine iteP_two (fun hc hd => ?_) (fun hc hd => ?_) | refine iteP_intro (fun hc => ?_) (fun hc => ?_))
theorem sn_r (hX : XN X) {n : Int} (hx : in4096 x n) (h0 : 0 ≤ n) (h1 : n ≤ 1024) (h : Heap) : Ret Try.prog ro X 68 [.float .f64 x] h (.float .f64 (snF x)) := by
  obtain ⟨f, hf, hs, _⟩ := sn_ok hx h0 h1
  rw [hs]
  exact sine_r hX hf
theorem far_fin : Fl.fin .f64 4841369599423283200 (((18446744073709551616 : Nat) : Int) * 2 ^ 1062) := lit_fin (m := 2 ^ 52) (e := 1074) (by decide +kernel) (by decide +kernel)
set_option maxHeartbeats 4000000 in
theorem Phasor_r (hX : XN X) (hA : XAbs X) (hs : s.natAbs < 2 ^ 27) (h : Heap) : Ret Try.prog ro X 51 [.float .f64 (stF s)] h (toV (PH s)) := by
  have hx := stF_in hs
  obtain ⟨f, hf, hi⟩ := frF_in hx hs
  have h27 : (2 : Nat) ^ 27 = 134217728 := by decide
  rw [h27] at hs
  have e : (frF (stF s)).getD 0 = f := by rw [hf]; rfl
  obtain ⟨q, hq⟩ : ∃ q, q = (s % 4096).toNat / 1024 := ⟨_, rfl⟩
  have hP : PH s = phB f q := by unfold PH; rw [e, ← hq]
  rw [hP]
  have hl := farith_lt .quo (cf .f64 (FloatKind.f64.nearest s)) 4661225614328463360
  obtain ⟨sg, m, p, hd, hv⟩ := id hx
  have hab := abs_r (ro := ro) hX hA hd hl h
  have hc : fcmp .leq .f64 4841369599423283200 (stF s % 9223372036854775808) = false := by
    have g : Fl.fin .f64 (stF s % 9223372036854775808) ((s.natAbs : Int) * 2 ^ 1062) := by
      refine lit_fin (abs_decode hd) ?_
      have := congrArg Int.natAbs hv
      rw [abs_mul_pow, abs_mul_pow, sg_abs] at this
      exact this.symm
    rw [in_le far_fin g]
    exact decide_eq_false (by omega)
  generalize stF s % 9223372036854775808 = xa at *
  generalize stF s = x at *
  obtain ⟨n, hn⟩ : ∃ n, n = s % 4096 := ⟨_, rfl⟩
  rw [← hn] at hi hq
  have n0 : 0 ≤ n := by omega
  have n1 : n < 4096 := by omega
  have hq4 : q < 4 := by omega
  refine ret_of (callR_of (hX _ rfl) Try.func51 rfl (by kernel_rfl) (Nat.le_of_ble_eq_true rfl) ?_)
  (repeat' first | simp -dsimp (disch := first | omega | assumption | (refine OkS.sto ?_ (by omega); first | assumption | (refine OkS.sto ?_ (by omega); first | assumption | (refine OkS.sto ?_ (by omega); first | assumption | (refine OkS.sto ?_ (by omega); first | assumption | (refine OkS.sto ?_ (by omega); first | assumption | (refine OkS.sto ?_ (by omega); first | assumption)))))) | exact Pfx.refl _ | (apply Pfx.snoc; repeat (first | exact Pfx.refl _ | assumption | apply Pfx.snoc)) | with_unfolding_all exact of_eq_true (eq_true rfl) | (simp only [List.length_append, List.length_cons, List.length_nil]; omega)) only [↓wpre0, ↓wpre1, ↓reduceIte, Int.reduceToNat, Nat.reduceAdd, Nat.reduceMul, Nat.reduceEqDiff, wpost0, wpost1, wpost2, wpost3, wpost4, ite_self, ite_true, ite_false, if_true, if_false, un_not, xcv39_35, blt_cpx, bin_fgeq, bin_fsub, bin_add, bin_eql, fr51, wrap_int, wrap_u8, iteP_yes, iteP_no, isFin_r hX hx, hab, hc, fraction_r hX hf] | refine iteP_two (fun hc hd => ?_) (fun hc hd => ?_) | refine iteP_intro (fun hc => ?_) (fun hc => ?_))
  refine loop_rounds (fun mm e h' => ∃ j : Nat, mm = 4 - j ∧ j ≤ q ∧ h' = h ∧ e 4 = .float .f64 (fqF f j) ∧ e 5 = .int .i64 j) _ ⟨0, rfl, ?_⟩ ?_
  · simp only [updO_at, updO_not, entry_at, List.getD_cons_zero, List.getD_cons_succ, ↓reduceIte, Nat.reduceEqDiff, true_and, and_true]
    (repeat' (first | assumption | rfl | omega | refine And.intro ?_ ?_))
  · rintro mm e h' ⟨j, hmm, hj, rfl, g4, g5⟩
    have hks : (j : Int) + 1 = ((j + 1 : Nat) : Int) := by omega
    have hg := fq_in hi n0 n1 j (by omega)
    have hcq := in_le quarter_fin hg
    by_cases hjq : j < q
    · rw [decide_eq_true (by omega)] at hcq
      unfold fQuarter at hcq
      (repeat' first | simp -dsimp (disch := first | omega | assumption | (refine OkS.sto ?_ (by omega); first | assumption | (refine OkS.sto ?_ (by omega); first | assumption | (refine OkS.sto ?_ (by omega); first | assumption | (refine OkS.sto ?_ (by omega); first | assumption | (refine OkS.sto ?_ (by omega); first | assumption | (refine OkS.sto ?_ (by omega); first | assumption)))))) | exact Pfx.refl _ | (apply Pfx.snoc; repeat (first | exact Pfx.refl _ | assumption | apply Pfx.snoc)) | with_unfolding_all exact of_eq_true (eq_true rfl) | (simp only [List.length_append, List.length_cons, List.length_nil]; omega)) only [↓wpre0, ↓wpre1, ↓reduceIte, Int.reduceToNat, Nat.reduceAdd, Nat.reduceMul, Nat.reduceEqDiff, wpost0, wpost1, wpost2, wpost3, wpost4, ite_self, ite_true, ite_false, if_true, if_false, un_not, xcv39_35, blt_cpx, bin_fgeq, bin_fsub, bin_add, bin_eql, fr51, wrap_int, wrap_u8, iteP_yes, iteP_no, g4, g5, hcq, hks] | refine iteP_two (fun hc hd => ?_) (fun hc hd => ?_) | refine iteP_intro (fun hc => ?_) (fun hc => ?_))
      refine ⟨4 - (j + 1), by omega, j + 1, ?_⟩
      have : farith .sub .f64 (fqF f j) 4598175219545276416 = fqF f (j + 1) := rfl
      (repeat' (first | assumption | rfl | omega | (rw [this]) | refine And.intro ?_ ?_))
    · have : j = q := by omega
      subst this
      rw [decide_eq_false (by omega)] at hcq
      unfold fQuarter at hcq
      have h40 : (2 : Nat) ^ 40 = 1099511627776 := by decide
      have hcv := in_sub quarter_fin hg (by rw [h40]; omega)
      have r1 : Ret Try.prog ro X 68 [.float .f64 (fqF f j)] h' (.float .f64 (snF (fqF f j))) := sn_r hX hg (by omega) (by omega) h'
      have r2 : Ret Try.prog ro X 68 [.float .f64 (farith .sub .f64 4598175219545276416 (fqF f j))] h' (.float .f64 (snF (farith .sub .f64 4598175219545276416 (fqF f j)))) := sn_r hX hcv (by omega) (by omega) h'
      obtain ⟨_, _, _, b1⟩ := sn_ok hg (by omega) (by omega)
      obtain ⟨_, _, _, b2⟩ := sn_ok hcv (by omega) (by omega)
      have eP : phB f j = (if j = 0 then ⟨nr (snF (farith .sub .f64 fQuarter (fqF f j))), nr (snF (fqF f j))⟩ else if j = 1 then ⟨nr (farith .sub .f64 0 (snF (fqF f j))), nr (snF (farith .sub .f64 fQuarter (fqF f j)))⟩ else if j = 2 then ⟨nr (farith .sub .f64 0 (snF (farith .sub .f64 fQuarter (fqF f j)))), nr (farith .sub .f64 0 (snF (fqF f j)))⟩ else ⟨nr (snF (fqF f j)), nr (farith .sub .f64 0 (snF (farith .sub .f64 fQuarter (fqF f j))))⟩) := rfl
      rw [eP]
      have fq : fQuarter = 4598175219545276416 := rfl
      rw [fq] at b2 ⊢
      have c1 := (nr_ok (b1.mono (by decide))).1
      have c2 := (nr_ok (b2.mono (by decide))).1
      have d1 := (nr_ok (neg_ok b1)).1
      have d2 := (nr_ok (neg_ok b2)).1
      generalize snF (farith .sub .f64 4598175219545276416 (fqF f j)) = C at *
      generalize snF (fqF f j) = S at *
      have hj' : j = 0 ∨ j = 1 ∨ j = 2 ∨ j = 3 := by omega
      rcases hj' with rfl | rfl | rfl | rfl
      · (repeat' first | simp -dsimp (disch := first | omega | assumption | (refine OkS.sto ?_ (by omega); first | assumption | (refine OkS.sto ?_ (by omega); first | assumption | (refine OkS.sto ?_ (by omega); first | assumption | (refine OkS.sto ?_ (by omega); first | assumption | (refine OkS.sto ?_ (by omega); first | assumption | (refine OkS.sto ?_ (by omega); first | assumption)))))) | exact Pfx.refl _ | (apply Pfx.snoc; repeat (first | exact Pfx.refl _ | assumption | apply Pfx.snoc)) | with_unfolding_all exact of_eq_true (eq_true rfl) | (simp only [List.length_append, List.length_cons, List.length_nil]; omega)) only [↓wpre0, ↓wpre1, ↓reduceIte, Int.reduceToNat, Nat.reduceAdd, Nat.reduceMul, Nat.reduceEqDiff, wpost0, wpost1, wpost2, wpost3, wpost4, ite_self, ite_true, ite_false, if_true, if_false, un_not, xcv39_35, blt_cpx, bin_fgeq, bin_fsub, bin_add, bin_eql, fr51, wrap_int, wrap_u8, iteP_yes, iteP_no, g4, g5, hcq, r1, r2, cv_n c1, cv_n c2] | refine iteP_two (fun hc hd => ?_) (fun hc hd => ?_) | refine iteP_intro (fun hc => ?_) (fun hc => ?_))
      · (repeat' first | simp -dsimp (disch := first | omega | assumption | (refine OkS.sto ?_ (by omega); first | assumption | (refine OkS.sto ?_ (by omega); first | assumption | (refine OkS.sto ?_ (by omega); first | assumption | (refine OkS.sto ?_ (by omega); first | assumption | (refine OkS.sto ?_ (by omega); first | assumption | (refine OkS.sto ?_ (by omega); first | assumption)))))) | exact Pfx.refl _ | (apply Pfx.snoc; repeat (first | exact Pfx.refl _ | assumption | apply Pfx.snoc)) | with_unfolding_all exact of_eq_true (eq_true rfl) | (simp only [List.length_append, List.length_cons, List.length_nil]; omega)) only [↓wpre0, ↓wpre1, ↓reduceIte, Int.reduceToNat, Nat.reduceAdd, Nat.reduceMul, Nat.reduceEqDiff, wpost0, wpost1, wpost2, wpost3, wpost4, ite_self, ite_true, ite_false, if_true, if_false, un_not, xcv39_35, blt_cpx, bin_fgeq, bin_fsub, bin_add, bin_eql, fr51, wrap_int, wrap_u8, iteP_yes, iteP_no, g4, g5, hcq, r1, r2, cv_n d1, cv_n c2] | refine iteP_two (fun hc hd => ?_) (fun hc hd => ?_) | refine iteP_intro (fun hc => ?_) (fun hc => ?_))
      · (repeat' first | simp -dsimp (disch := first | omega | assumption | (refine OkS.sto ?_ (by omega); first | assumption | (refine OkS.sto ?_ (by omega); first | assumption | (refine OkS.sto ?_ (by omega); first | assumption | (refine OkS.sto ?_ (by omega); first | assumption | (refine OkS.sto ?_ (by omega); first | assumption | (refine OkS.sto ?_ (by omega); first | assumption)))))) | exact Pfx.refl _ | (apply Pfx.snoc; repeat (first | exact Pfx.refl _ | assumption | apply Pfx.snoc)) | with_unfolding_all exact of_eq_true (eq_true rfl) | (simp only [List.length_append, List.length_cons, List.length_nil]; omega)) only [↓wpre0, ↓wpre1, ↓reduceIte, Int.reduceToNat, Nat.reduceAdd, Nat.reduceMul, Nat.reduceEqDiff, wpost0, wpost1, wpost2, wpost3, wpost4, ite_self, ite_true, ite_false, if_true, if_false, un_not, xcv39_35, blt_cpx, bin_fgeq, bin_fsub, bin_add, bin_eql, fr51, wrap_int, wrap_u8, iteP_yes, iteP_no, g4, g5, hcq, r1, r2, cv_n d1, cv_n d2] | refine iteP_two (fun hc hd => ?_) (fun hc hd => ?_) | refine iteP_intro (fun hc => ?_) (fun hc => ?_))
      · (repeat' first | simp -dsimp (disch := first | omega | assumption | (refine OkS.sto ?_ (by omega); first | assumption | (refine OkS.sto ?_ (by omega); first | assumption | (refine OkS.sto ?_ (by omega); first | assumption | (refine OkS.sto ?_ (by omega); first | assumption | (refine OkS.sto ?_ (by omega); first | assumption | (refine OkS.sto ?_ (by omega); first | assumption)))))) | exact Pfx.refl _ | (apply Pfx.snoc; repeat (first | exact Pfx.refl _ | assumption | apply Pfx.snoc)) | with_unfolding_all exact of_eq_true (eq_true rfl) | (simp only [List.length_append, List.length_cons, List.length_nil]; omega)) only [↓wpre0, ↓wpre1, ↓reduceIte, Int.reduceToNat, Nat.reduceAdd, Nat.reduceMul, Nat.reduceEqDiff, wpost0, wpost1, wpost2, wpost3, wpost4, ite_self, ite_true, ite_false, if_true, if_false, un_not, xcv39_35, blt_cpx, bin_fgeq, bin_fsub, bin_add, bin_eql, fr51, wrap_int, wrap_u8, iteP_yes, iteP_no, g4, g5, hcq, r1, r2, cv_n c1, cv_n d2] | refine iteP_two (fun hc hd => ?_) (fun hc hd => ?_) | refine iteP_intro (fun hc => ?_) (fun hc => ?_))
end Go.Proofs.Ytkhipobafchilaa.Sim
