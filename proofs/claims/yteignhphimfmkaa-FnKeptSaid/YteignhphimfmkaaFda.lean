
/- What the functions of records that tell a text's first difference come to. Lemmas only; no condition. -/
import Derived.Test.YteignhphimfmkaaSimS
import Derived.Test.YteignhphimfmkaaSimU
set_option linter.unusedSimpArgs false
set_option linter.unusedVariables false
namespace Go.Proofs.Yteignhphimfmkaa.Sim
open Go Go.RowKit
variable {ro : Nat} {X : Ext}
def count (n : Int) : Bool := decide (1 ≤ n) && decide (n ≤ 16)
/-- The text begins as a record does. -/
def hdr (s : ByteArray) : Bool := decide (5 ≤ s.size) && (s.extract 0 4).toList == (⟨#[65, 82, 82, 49]⟩ : ByteArray).toList
theorem within_c (hX : X 27 = none) (n lo hi : Int) (h : Heap) : Call Try.prog ro X 27 [.int .i64 n, .int .i64 lo, .int .i64 hi] h (.bool (decide (lo ≤ n) && decide (n ≤ hi))) h := by
  refine call_of_R ?_
  refine callR_of hX Try.func27 rfl (by kernel_rfl) (Nat.le_of_ble_eq_true rfl) ?_
  (repeat' first | simp -dsimp (disch := first | omega | assumption | (refine OkS.sto ?_ (by omega); first | assumption | (refine OkS.sto ?_ (by omega); first | assumption | (refine OkS.sto ?_ (by omega); first | assumption | (refine OkS.sto ?_ (by omega); first | assumption | (refine OkS.sto ?_ (by omega); first | assumption | (refine OkS.sto ?_ (by omega); first | assumption)))))) | exact Pfx.refl _ | (apply Pfx.snoc; repeat (first | exact Pfx.refl _ | assumption | apply Pfx.snoc)) | with_unfolding_all exact of_eq_true (eq_true rfl) | (simp only [List.length_append, List.length_cons, List.length_nil]; omega)) only [↓wpre0, ↓wpre1, ↓reduceIte, Int.reduceToNat, Nat.reduceAdd, Nat.reduceMul, Nat.reduceEqDiff, wpost0, wpost1, wpost2, wpost3, wpost4, ite_self, ite_true, ite_false, if_true, if_false, bin_geq, bin_leq, fr27, wrap_int, wrap_u8, iteP_yes, iteP_no] | refine iteP_two (fun hc hd => ?_) (fun hc hd => ?_) | refine iteP_intro (fun hc => ?_) (fun hc => ?_))
  all_goals simp [hc]
theorem isCount_c (hX : XN X) (n : Int) (h : Heap) : Call Try.prog ro X 21 [.int .i64 n] h (.bool (count n)) h := by
  refine call_of_R ?_
  refine callR_of (hX _ rfl) Try.func21 rfl (by kernel_rfl) (Nat.le_of_ble_eq_true rfl) ?_
  (repeat' first | simp -dsimp (disch := first | omega | assumption | (refine OkS.sto ?_ (by omega); first | assumption | (refine OkS.sto ?_ (by omega); first | assumption | (refine OkS.sto ?_ (by omega); first | assumption | (refine OkS.sto ?_ (by omega); first | assumption | (refine OkS.sto ?_ (by omega); first | assumption | (refine OkS.sto ?_ (by omega); first | assumption)))))) | exact Pfx.refl _ | (apply Pfx.snoc; repeat (first | exact Pfx.refl _ | assumption | apply Pfx.snoc)) | with_unfolding_all exact of_eq_true (eq_true rfl) | (simp only [List.length_append, List.length_cons, List.length_nil]; omega)) only [↓wpre0, ↓wpre1, ↓reduceIte, Int.reduceToNat, Nat.reduceAdd, Nat.reduceMul, Nat.reduceEqDiff, wpost0, wpost1, wpost2, wpost3, wpost4, ite_self, ite_true, ite_false, if_true, if_false, fr21, wrap_int, wrap_u8, iteP_yes, iteP_no, cf_eq (within_c (hX _ rfl) _ _ _ _)] | refine iteP_two (fun hc hd => ?_) (fun hc hd => ?_) | refine iteP_intro (fun hc => ?_) (fun hc => ?_))
  simp [count]
theorem slHas_c (hX : XN X) (s p : ByteArray) (h : Heap) : Call Try.prog ro X 46 [.string s, .string p] h (.bool (decide (p.size ≤ s.size) && (s.extract 0 p.size).toList == p.toList)) h := by
  refine call_of_R ?_
  refine callR_of (hX _ rfl) Try.func46 rfl (by kernel_rfl) (Nat.le_of_ble_eq_true rfl) ?_
  (repeat' first | simp -dsimp (disch := first | omega | assumption | (refine OkS.sto ?_ (by omega); first | assumption | (refine OkS.sto ?_ (by omega); first | assumption | (refine OkS.sto ?_ (by omega); first | assumption | (refine OkS.sto ?_ (by omega); first | assumption | (refine OkS.sto ?_ (by omega); first | assumption | (refine OkS.sto ?_ (by omega); first | assumption)))))) | exact Pfx.refl _ | (apply Pfx.snoc; repeat (first | exact Pfx.refl _ | assumption | apply Pfx.snoc)) | with_unfolding_all exact of_eq_true (eq_true rfl) | (simp only [List.length_append, List.length_cons, List.length_nil]; omega)) only [↓wpre0, ↓wpre1, ↓reduceIte, Int.reduceToNat, Nat.reduceAdd, Nat.reduceMul, Nat.reduceEqDiff, wpost0, wpost1, wpost2, wpost3, wpost4, ite_self, ite_true, ite_false, if_true, if_false, xlen9, bin_geq, xsl9, xslo9, xshi9, bin_seql, fr46, wrap_int, wrap_u8, iteP_yes, iteP_no] | refine iteP_two (fun hc hd => ?_) (fun hc hd => ?_) | refine iteP_intro (fun hc => ?_) (fun hc => ?_))
  · simp at hc; simp [hc]
  · simp at hc; simp; omega
/-- What opening a text tells. -/
def opn (s : ByteArray) : Int := if hdr s = true then bt s 4 else 0
theorem hdr_iff (s : ByteArray) : hdr s = true ↔ 5 ≤ s.size ∧ ((s.extract 0 4).toList == (⟨#[65, 82, 82, 49]⟩ : ByteArray).toList) = true := by simp [hdr]
theorem sHas_c (hX : XN X) (s p : ByteArray) (h : Heap) : Call Try.prog ro X 36 [.string s, .string p] h (.bool (decide (p.size ≤ s.size) && (s.extract 0 p.size).toList == p.toList)) h := by
  refine call_of_R ?_
  refine callR_of (hX _ rfl) Try.func36 rfl (by kernel_rfl) (Nat.le_of_ble_eq_true rfl) ?_
  simp -dsimp (disch := first | omega | assumption | (refine OkS.sto ?_ (by omega); first | assumption | (refine OkS.sto ?_ (by omega); first | assumption | (refine OkS.sto ?_ (by omega); first | assumption | (refine OkS.sto ?_ (by omega); first | assumption | (refine OkS.sto ?_ (by omega); first | assumption | (refine OkS.sto ?_ (by omega); first | assumption)))))) | exact Pfx.refl _ | (apply Pfx.snoc; repeat (first | exact Pfx.refl _ | assumption | apply Pfx.snoc)) | with_unfolding_all exact of_eq_true (eq_true rfl) | (simp only [List.length_append, List.length_cons, List.length_nil]; omega)) only [↓wpre0, ↓wpre1, ↓reduceIte, Int.reduceToNat, Nat.reduceAdd, Nat.reduceMul, Nat.reduceEqDiff, wpost0, wpost1, wpost2, wpost3, wpost4, ite_self, ite_true, ite_false, if_true, if_false, fr36, wrap_int, wrap_u8, iteP_yes, iteP_no, cf_eq (slHas_c hX _ _ _)]
theorem sHas4_c (hX : XN X) (s : ByteArray) (h5 : 5 ≤ s.size) (h : Heap) : Call Try.prog ro X 36 [.string s, .string ⟨#[65, 82, 82, 49]⟩] h (.bool (hdr s)) h := by
  have := sHas_c hX (ro := ro) s ⟨#[65, 82, 82, 49]⟩ h
  have e : (⟨#[65, 82, 82, 49]⟩ : ByteArray).size = 4 := rfl
  rw [e] at this
  simpa [hdr, h5, show 4 ≤ s.size by omega] using this
/-- What opening tells in the delivered code. -/
def opi (s : ByteArray) : Int := if (hdr s && count (bt s 4)) = true then bt s 4 else 0
theorem elementsOf_c (hX : XN X) (s : ByteArray) (h : Heap) : Call Try.prog ro X 25 [.string s] h (.tuple ⟨[.int .i64 (opi s), .bool (hdr s && count (bt s 4))]⟩) h := by
  refine call_of_R ?_
  refine callR_of (hX _ rfl) Try.func25 rfl (by kernel_rfl) (Nat.le_of_ble_eq_true rfl) ?_
  by_cases h1 : 5 ≤ s.size
  · (repeat' first | simp -dsimp (disch := first | omega | assumption | (refine OkS.sto ?_ (by omega); first | assumption | (refine OkS.sto ?_ (by omega); first | assumption | (refine OkS.sto ?_ (by omega); first | assumption | (refine OkS.sto ?_ (by omega); first | assumption | (refine OkS.sto ?_ (by omega); first | assumption | (refine OkS.sto ?_ (by omega); first | assumption)))))) | exact Pfx.refl _ | (apply Pfx.snoc; repeat (first | exact Pfx.refl _ | assumption | apply Pfx.snoc)) | with_unfolding_all exact of_eq_true (eq_true rfl) | (simp only [List.length_append, List.length_cons, List.length_nil]; omega)) only [↓wpre0, ↓wpre1, ↓reduceIte, Int.reduceToNat, Nat.reduceAdd, Nat.reduceMul, Nat.reduceEqDiff, wpost0, wpost1, wpost2, wpost3, wpost4, ite_self, ite_true, ite_false, if_true, if_false, xlen9, bin_lss, un_not, xidx9, xcv5_2, fr25, wrap_int, wrap_u8, iteP_yes, iteP_no, cf_eq (sHas4_c hX _ h1 _), cf_eq (isCount_c hX _ _)] | refine iteP_two (fun hc hd => ?_) (fun hc hd => ?_) | refine iteP_intro (fun hc => ?_) (fun hc => ?_))
    all_goals simp_all [opi]
  · have hh : hdr s = false := by simp [hdr, h1]
    (repeat' first | simp -dsimp (disch := first | omega | assumption | (refine OkS.sto ?_ (by omega); first | assumption | (refine OkS.sto ?_ (by omega); first | assumption | (refine OkS.sto ?_ (by omega); first | assumption | (refine OkS.sto ?_ (by omega); first | assumption | (refine OkS.sto ?_ (by omega); first | assumption | (refine OkS.sto ?_ (by omega); first | assumption)))))) | exact Pfx.refl _ | (apply Pfx.snoc; repeat (first | exact Pfx.refl _ | assumption | apply Pfx.snoc)) | with_unfolding_all exact of_eq_true (eq_true rfl) | (simp only [List.length_append, List.length_cons, List.length_nil]; omega)) only [↓wpre0, ↓wpre1, ↓reduceIte, Int.reduceToNat, Nat.reduceAdd, Nat.reduceMul, Nat.reduceEqDiff, wpost0, wpost1, wpost2, wpost3, wpost4, ite_self, ite_true, ite_false, if_true, if_false, xlen9, bin_lss, un_not, xidx9, xcv5_2, fr25, wrap_int, wrap_u8, iteP_yes, iteP_no, cf_eq (isCount_c hX _ _)] | refine iteP_two (fun hc hd => ?_) (fun hc hd => ?_) | refine iteP_intro (fun hc => ?_) (fun hc => ?_))
    all_goals simp_all [opi]
theorem iFrameSize_c (hX : XN X) (n : Int) (h0 : count n = true) (h : Heap) : Call Try.prog ro X 8 [.int .i64 n] h (.tuple ⟨[.int .i64 (6 + 8 * n), .bool true]⟩) h := by
  have h1 := h0
  simp only [count, Bool.and_eq_true, decide_eq_true_eq] at h1
  refine call_of_R ?_
  refine callR_of (hX _ rfl) Try.func8 rfl (by kernel_rfl) (Nat.le_of_ble_eq_true rfl) ?_
  simp -dsimp (disch := first | omega | assumption | (refine OkS.sto ?_ (by omega); first | assumption | (refine OkS.sto ?_ (by omega); first | assumption | (refine OkS.sto ?_ (by omega); first | assumption | (refine OkS.sto ?_ (by omega); first | assumption | (refine OkS.sto ?_ (by omega); first | assumption | (refine OkS.sto ?_ (by omega); first | assumption)))))) | exact Pfx.refl _ | (apply Pfx.snoc; repeat (first | exact Pfx.refl _ | assumption | apply Pfx.snoc)) | with_unfolding_all exact of_eq_true (eq_true rfl) | (simp only [List.length_append, List.length_cons, List.length_nil]; omega)) only [↓wpre0, ↓wpre1, ↓reduceIte, Int.reduceToNat, Nat.reduceAdd, Nat.reduceMul, Nat.reduceEqDiff, wpost0, wpost1, wpost2, wpost3, wpost4, ite_self, ite_true, ite_false, if_true, if_false, un_not, bin_mul, bin_add, fr8, wrap_int, wrap_u8, iteP_yes, iteP_no, cf_eq (isCount_c hX _ _), h0]
/-- Where two texts part. -/
def Fst (s t : ByteArray) (i : Int) : Prop := 5 ≤ i ∧ i ≤ s.size ∧ i ≤ t.size ∧ (∀ j, 5 ≤ j → j < i → bt s j = bt t j) ∧ ¬ (i < s.size ∧ i < t.size ∧ bt s i = bt t i)
theorem Fst.uniq {s t : ByteArray} {i j : Int} (h1 : Fst s t i) (h2 : Fst s t j) : i = j := by
  obtain ⟨a1, a2, a3, a4, a5⟩ := h1
  obtain ⟨b1, b2, b3, b4, b5⟩ := h2
  rcases Int.lt_trichotomy i j with q | q | q
  · exact absurd ⟨by omega, by omega, b4 i a1 q⟩ a5
  · exact q
  · exact absurd ⟨by omega, by omega, a4 j b1 q⟩ b5
def okr (s : ByteArray) : Bool := hdr s && count (bt s 4)
def badD (s t : ByteArray) : Bool := !(okr s) || !(okr t) || decide (bt s 4 ≠ bt t 4) || s.toList == t.toList
/-- What the first difference is told to be. -/
def FdR (s t : ByteArray) (r : Value) : Prop :=
  (badD s t = true ∧ r = .tuple ⟨[.int .i64 0, .int .i64 0, .bool false]⟩) ∨
  (badD s t = false ∧ ∃ i, Fst s t i ∧ r = .tuple ⟨[.int .i64 ((i - 5).tdiv (6 + 8 * bt s 4)), .int .i64 ((i - 5).tmod (6 + 8 * bt s 4)), .bool true]⟩)
theorem FdR.uniq {s t : ByteArray} {r r' : Value} (h1 : FdR s t r) (h2 : FdR s t r') : r = r' := by
  rcases h1 with ⟨a, rfl⟩ | ⟨a, i, hi, rfl⟩ <;> rcases h2 with ⟨b, rfl⟩ | ⟨b, j, hj, rfl⟩
  · rfl
  · rw [a] at b; cases b
  · rw [a] at b; cases b
  · rw [hi.uniq hj]
theorem wrap_div {a b : Int} (h0 : 0 ≤ a ∧ a ≤ 9223372036854775807) (h1 : 0 < b) : IntKind.i64.wrap (a.tdiv b) = a.tdiv b := by
  have e := Int.tdiv_eq_ediv_of_nonneg (b := b) h0.1
  have h2 : 0 ≤ a / b := Int.ediv_nonneg h0.1 (by omega)
  have h3 : a / b ≤ a := Int.ediv_le_self _ h0.1
  rw [e]
  exact wrap_int (by omega) (by omega)
theorem iFirst_c (hX : XN X) (s t : ByteArray) (hs : s.size ≤ 140737488351232) (ht : t.size ≤ 140737488351232) (h : Heap) : CallR Try.prog ro X 15 [.string s, .string t] h (fun r h' => h' = h ∧ FdR s t r) := by
  refine callR_of (hX _ rfl) Try.func15 rfl (by kernel_rfl) (Nat.le_of_ble_eq_true rfl) ?_
  (repeat' first | simp -dsimp (disch := first | omega | assumption | (refine OkS.sto ?_ (by omega); first | assumption | (refine OkS.sto ?_ (by omega); first | assumption | (refine OkS.sto ?_ (by omega); first | assumption | (refine OkS.sto ?_ (by omega); first | assumption | (refine OkS.sto ?_ (by omega); first | assumption | (refine OkS.sto ?_ (by omega); first | assumption)))))) | exact Pfx.refl _ | (apply Pfx.snoc; repeat (first | exact Pfx.refl _ | assumption | apply Pfx.snoc)) | with_unfolding_all exact of_eq_true (eq_true rfl) | (simp only [List.length_append, List.length_cons, List.length_nil]; omega)) only [↓wpre0, ↓wpre1, ↓reduceIte, Int.reduceToNat, Nat.reduceAdd, Nat.reduceMul, Nat.reduceEqDiff, wpost0, wpost1, wpost2, wpost3, wpost4, ite_self, ite_true, ite_false, if_true, if_false, un_not, bin_neq, bin_seql, xlen9, bin_lss, xidx9, bin_eql, bin_add, bin_sub, bin_quo, bin_rem, fr15, wrap_int, wrap_u8, iteP_yes, iteP_no, cf_eq (elementsOf_c hX _ _)] | refine iteP_two (fun hc hd => ?_) (fun hc hd => ?_) | refine iteP_intro (fun hc => ?_) (fun hc => ?_))
  all_goals first | (left; refine ⟨?_, rfl⟩; simp_all [badD, okr, opn, opi]; done) | skip
  rename_i h1 h2 h3 h4 hne
  have e1 : opi s = bt s 4 := by simp [opi, h1, h2]
  have e2 : opi t = bt t 4 := by simp [opi, h3, h4]
  have hs5 := ((hdr_iff s).1 h1).1
  have ht5 := ((hdr_iff t).1 h3).1
  have hbad : badD s t = false := by simp_all [badD, okr]
  have c2 := h2
  simp only [count, Bool.and_eq_true, decide_eq_true_eq] at c2
  refine loop_rounds (fun n e h' => ∃ i : Int, n = (s.size : Int).toNat - i.toNat ∧ h' = h ∧ e 0 = .string s ∧ e 1 = .string t ∧ e 7 = .int .i64 (opi s) ∧ e 11 = .int .i64 i ∧ 5 ≤ i ∧ i ≤ s.size ∧ i ≤ t.size ∧ ∀ j, 5 ≤ j → j < i → bt s j = bt t j) _ ⟨5, rfl, ?_⟩ ?_
  · simp only [updO_at, updO_not, entry_at, List.getD_cons_zero, List.getD_cons_succ, ↓reduceIte, Nat.reduceEqDiff, true_and, and_true]
    refine ⟨by omega, by omega, by omega, fun j h1 h2 => by omega⟩
  · rintro n e h' ⟨i, hn, rfl, g0, g1, g7, g11, i5, is, it, hi⟩
    (repeat' first | simp -dsimp (disch := first | omega | assumption | (refine OkS.sto ?_ (by omega); first | assumption | (refine OkS.sto ?_ (by omega); first | assumption | (refine OkS.sto ?_ (by omega); first | assumption | (refine OkS.sto ?_ (by omega); first | assumption | (refine OkS.sto ?_ (by omega); first | assumption | (refine OkS.sto ?_ (by omega); first | assumption)))))) | exact Pfx.refl _ | (apply Pfx.snoc; repeat (first | exact Pfx.refl _ | assumption | apply Pfx.snoc)) | with_unfolding_all exact of_eq_true (eq_true rfl) | (simp only [List.length_append, List.length_cons, List.length_nil]; omega)) only [↓wpre0, ↓wpre1, ↓reduceIte, Int.reduceToNat, Nat.reduceAdd, Nat.reduceMul, Nat.reduceEqDiff, wpost0, wpost1, wpost2, wpost3, wpost4, ite_self, ite_true, ite_false, if_true, if_false, un_not, bin_neq, bin_seql, xlen9, bin_lss, xidx9, bin_eql, bin_add, bin_sub, bin_quo, bin_rem, fr15, wrap_int, wrap_u8, iteP_yes, iteP_no, g0, g1, g7, g11, e1, cf_eq (iFrameSize_c hX _ h2 _)] | refine iteP_two (fun hc hd => ?_) (fun hc hd => ?_) | refine iteP_intro (fun hc => ?_) (fun hc => ?_))
    · refine ⟨_, ?_, i + 1, rfl, rfl, by omega, by omega, by omega, fun j p q => by
        rcases Int.lt_or_eq_of_le (show j ≤ i by omega) with r | r
        · exact hi j p r
        · rw [r]; assumption⟩
      omega
    all_goals
      rw [wrap_div (by omega) (by omega)]
      exact .inr ⟨hbad, i, ⟨i5, is, it, hi, fun q => by first | exact absurd q.1 (by assumption) | exact absurd q.2.1 (by assumption) | exact absurd q.2.2 (by assumption)⟩, rfl⟩
end Go.Proofs.Yteignhphimfmkaa.Sim
