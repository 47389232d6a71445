/- Places, drawn: whether places are good. Lemmas only; no condition. -/
import Derived.Test.YtelogajobjflfaaDrw
import Derived.Test.YtelogajobjflfaaSimXq
set_option linter.unusedSimpArgs false
set_option linter.unusedVariables false
set_option maxRecDepth 8000
namespace Go.Proofs.Ytelogajobjflfaa.Sim
open Go Go.RowKit
variable {ro lo hi : Nat} {X : Ext} {h : Heap} {x : Value} {n : Nat} {l : List Int}
/-- A number that is a coordinate. -/
def cdB (u : Int) : Bool := decide (-4096 ≤ u) && decide (u ≤ 4096)
def plB (l : List Int) (i : Nat) : Bool := cdB (nth l (i * 2)) && cdB (nth l (i * 2 + 1))
def samB (l : List Int) (i k : Nat) : Bool := decide (nth l (k * 2) = nth l (i * 2)) && decide (nth l (k * 2 + 1) = nth l (i * 2 + 1))
/-- Places that are valid. -/
structure goodP (n : Nat) (l : List Int) : Prop where
  n1 : 1 ≤ n
  n16 : n ≤ 16
  pl : ∀ i, i < n → plB l i = true
  df : ∀ i k, i < n → k < i → samB l i k = false
theorem l00InP_r (hX : XN X) (a b c : Int) (h : Heap) : Ret Try.prog ro X 197 [.int .i64 a, .int .i64 b, .int .i64 c] h (.bool (decide (b ≤ a) && decide (a ≤ c))) := by
  refine ret_of (callR_of (hX _ rfl) Try.func197 rfl (by kernel_rfl) (Nat.le_of_ble_eq_true rfl) ?_)
  (repeat' first | simp -dsimp (disch := first | omega | assumption | (refine OkS.sto ?_ (by omega); first | assumption | (refine OkS.sto ?_ (by omega); first | assumption | (refine OkS.sto ?_ (by omega); first | assumption | (refine OkS.sto ?_ (by omega); first | assumption | (refine OkS.sto ?_ (by omega); first | assumption | (refine OkS.sto ?_ (by omega); first | assumption)))))) | exact Pfx.refl _ | (apply Pfx.snoc; repeat (first | exact Pfx.refl _ | assumption | apply Pfx.snoc)) | with_unfolding_all exact of_eq_true (eq_true rfl) | (simp only [List.length_append, List.length_cons, List.length_nil]; omega)) only [↓wpre0, ↓wpre1, ↓reduceIte, Int.reduceToNat, Nat.reduceAdd, Nat.reduceMul, Nat.reduceEqDiff, wpost0, wpost1, wpost2, wpost3, wpost4, ite_self, ite_true, ite_false, if_true, if_false, bin_geq, bin_leq, fr197, wrap_int, wrap_u8, iteP_yes, iteP_no] | refine iteP_two (fun hc hd => ?_) (fun hc hd => ?_) | refine iteP_intro (fun hc => ?_) (fun hc => ?_))
  all_goals first | (simp_all; done) | (simp_all; omega) | skip
theorem l02Place_r (hX : XN X) (u v : Int) (h : Heap) : Ret Try.prog ro X 198 [.agg ⟨[.int .i64 u, .int .i64 v]⟩] h (.bool (cdB u && cdB v)) := by
  refine ret_of (callR_of (hX _ rfl) Try.func198 rfl (by kernel_rfl) (Nat.le_of_ble_eq_true rfl) ?_)
  have hb : boxV h 126 (.agg ⟨[.int .i64 u, .int .i64 v]⟩) = some (.pointer (some ⟨h.length, 0, none⟩), h ++ [⟨126, [.int .i64 u, .int .i64 v]⟩]) := box_go rfl
  have ef : ∀ b, endH (.bool b) h (h ++ [(⟨126, [.int .i64 u, .int .i64 v]⟩ : Blk)]) = h := fun b => endH_flat rfl (Pfx.refl h).snoc
  cases hu : cdB u with
  | true =>
    have hu' := hu
    unfold cdB at hu'
    (repeat' first | simp -dsimp (disch := first | omega | assumption | (refine OkS.sto ?_ (by omega); first | assumption | (refine OkS.sto ?_ (by omega); first | assumption | (refine OkS.sto ?_ (by omega); first | assumption | (refine OkS.sto ?_ (by omega); first | assumption | (refine OkS.sto ?_ (by omega); first | assumption | (refine OkS.sto ?_ (by omega); first | assumption)))))) | exact Pfx.refl _ | (apply Pfx.snoc; repeat (first | exact Pfx.refl _ | assumption | apply Pfx.snoc)) | with_unfolding_all exact of_eq_true (eq_true rfl) | (simp only [List.length_append, List.length_cons, List.length_nil]; omega)) only [↓wpre0, ↓wpre1, ↓reduceIte, Int.reduceToNat, Nat.reduceAdd, Nat.reduceMul, Nat.reduceEqDiff, wpost0, wpost1, wpost2, wpost3, wpost4, ite_self, ite_true, ite_false, if_true, if_false, xfad126_0, xld2, xfad126_1, fr198, wrap_int, wrap_u8, iteP_yes, iteP_no, hb, l00InP_r hX, hu', ef] | refine iteP_two (fun hc hd => ?_) (fun hc hd => ?_) | refine iteP_intro (fun hc => ?_) (fun hc => ?_))
    rfl
  | false =>
    have hu' := hu
    unfold cdB at hu'
    (repeat' first | simp -dsimp (disch := first | omega | assumption | (refine OkS.sto ?_ (by omega); first | assumption | (refine OkS.sto ?_ (by omega); first | assumption | (refine OkS.sto ?_ (by omega); first | assumption | (refine OkS.sto ?_ (by omega); first | assumption | (refine OkS.sto ?_ (by omega); first | assumption | (refine OkS.sto ?_ (by omega); first | assumption)))))) | exact Pfx.refl _ | (apply Pfx.snoc; repeat (first | exact Pfx.refl _ | assumption | apply Pfx.snoc)) | with_unfolding_all exact of_eq_true (eq_true rfl) | (simp only [List.length_append, List.length_cons, List.length_nil]; omega)) only [↓wpre0, ↓wpre1, ↓reduceIte, Int.reduceToNat, Nat.reduceAdd, Nat.reduceMul, Nat.reduceEqDiff, wpost0, wpost1, wpost2, wpost3, wpost4, ite_self, ite_true, ite_false, if_true, if_false, xfad126_0, xld2, xfad126_1, fr198, wrap_int, wrap_u8, iteP_yes, iteP_no, hb, l00InP_r hX, hu', ef] | refine iteP_two (fun hc hd => ?_) (fun hc hd => ?_) | refine iteP_intro (fun hc => ?_) (fun hc => ?_))
    all_goals rfl
set_option maxHeartbeats 4000000 in
theorem l02Is_c (hX : XN X) (hI : IS lo hi 2 h x n l) (hn : n ≤ 1048576) : CallR Try.prog ro X 128 [x] h (fun r h' => ∃ b, r = .bool b ∧ h' = h ∧ (b = true ↔ goodP n l)) := by
  have hl : l.length = n * 2 := hI.1
  refine callR_of (hX _ rfl) Try.func128 rfl (by kernel_rfl) (Nat.le_of_ble_eq_true rfl) ?_
  by_cases h16 : 1 ≤ n ∧ n ≤ 16
  · have hw : (decide ((1 : Int) ≤ (n : Int)) && decide ((n : Int) ≤ 16)) = true := by simp; omega
    (repeat' first | simp -dsimp (disch := first | omega | assumption | (refine OkS.sto ?_ (by omega); first | assumption | (refine OkS.sto ?_ (by omega); first | assumption | (refine OkS.sto ?_ (by omega); first | assumption | (refine OkS.sto ?_ (by omega); first | assumption | (refine OkS.sto ?_ (by omega); first | assumption | (refine OkS.sto ?_ (by omega); first | assumption)))))) | exact Pfx.refl _ | (apply Pfx.snoc; repeat (first | exact Pfx.refl _ | assumption | apply Pfx.snoc)) | with_unfolding_all exact of_eq_true (eq_true rfl) | (simp only [List.length_append, List.length_cons, List.length_nil]; omega)) only [↓wpre0, ↓wpre1, ↓reduceIte, Int.reduceToNat, Nat.reduceAdd, Nat.reduceMul, Nat.reduceEqDiff, wpost0, wpost1, wpost2, wpost3, wpost4, ite_self, ite_true, ite_false, if_true, if_false, xlen54, un_not, bin_lss, xiad54, xld126, bin_add, fr128, wrap_int, wrap_u8, iteP_yes, iteP_no, hI.len Try.underlying54, l00InP_r hX, hw] | refine iteP_two (fun hc hd => ?_) (fun hc hd => ?_) | refine iteP_intro (fun hc => ?_) (fun hc => ?_))
    refine loop_rounds (fun mm e h' => ∃ i : Nat, mm = n - i ∧ i ≤ n ∧ h' = h ∧ e 0 = x ∧ e 3 = .int .i64 i ∧ (∀ j, j < i → plB l j = true) ∧ ∀ j k, j < i → k < j → samB l j k = false) _ ⟨0, rfl, ?_⟩ ?_
    · simp only [updO_at, updO_not, entry_at, List.getD_cons_zero, List.getD_cons_succ, ↓reduceIte, Nat.reduceEqDiff, true_and, and_true]
      (repeat' (first | assumption | rfl | omega | (intro j hj; omega) | (intro j k hj; omega) | refine And.intro ?_ ?_))
    · rintro mm e h' ⟨i, hmm, hle, rfl, g0, g3, a1, a2⟩
      have hks : (i : Int) + 1 = ((i + 1 : Nat) : Int) := by omega
      by_cases hin : i < n
      · have hld := IS.ldm (P := Try.prog) (t := 126) (m := 2) (c := i * 2) hI tsz126 tag126 (by omega) (by omega)
        rw [ints_2] at hld
        cases hp : plB l i with
        | false =>
          have hp' := hp
          unfold plB at hp'
          (repeat' first | simp -dsimp (disch := first | omega | assumption | (refine OkS.sto ?_ (by omega); first | assumption | (refine OkS.sto ?_ (by omega); first | assumption | (refine OkS.sto ?_ (by omega); first | assumption | (refine OkS.sto ?_ (by omega); first | assumption | (refine OkS.sto ?_ (by omega); first | assumption | (refine OkS.sto ?_ (by omega); first | assumption)))))) | exact Pfx.refl _ | (apply Pfx.snoc; repeat (first | exact Pfx.refl _ | assumption | apply Pfx.snoc)) | with_unfolding_all exact of_eq_true (eq_true rfl) | (simp only [List.length_append, List.length_cons, List.length_nil]; omega)) only [↓wpre0, ↓wpre1, ↓reduceIte, Int.reduceToNat, Nat.reduceAdd, Nat.reduceMul, Nat.reduceEqDiff, wpost0, wpost1, wpost2, wpost3, wpost4, ite_self, ite_true, ite_false, if_true, if_false, xlen54, un_not, bin_lss, xiad54, xld126, bin_add, fr128, wrap_int, wrap_u8, iteP_yes, iteP_no, g0, g3, hI.len Try.underlying54, hI.iad Try.underlying54 tsz126, hld, l02Place_r hX, hp'] | refine iteP_two (fun hc hd => ?_) (fun hc hd => ?_) | refine iteP_intro (fun hc => ?_) (fun hc => ?_))
          refine ⟨false, rfl, fun q => (by cases q), fun g => ?_⟩
          have := g.pl i hin
          rw [hp] at this
          cases this
        | true =>
          have hp' := hp
          unfold plB at hp'
          (repeat' first | simp -dsimp (disch := first | omega | assumption | (refine OkS.sto ?_ (by omega); first | assumption | (refine OkS.sto ?_ (by omega); first | assumption | (refine OkS.sto ?_ (by omega); first | assumption | (refine OkS.sto ?_ (by omega); first | assumption | (refine OkS.sto ?_ (by omega); first | assumption | (refine OkS.sto ?_ (by omega); first | assumption)))))) | exact Pfx.refl _ | (apply Pfx.snoc; repeat (first | exact Pfx.refl _ | assumption | apply Pfx.snoc)) | with_unfolding_all exact of_eq_true (eq_true rfl) | (simp only [List.length_append, List.length_cons, List.length_nil]; omega)) only [↓wpre0, ↓wpre1, ↓reduceIte, Int.reduceToNat, Nat.reduceAdd, Nat.reduceMul, Nat.reduceEqDiff, wpost0, wpost1, wpost2, wpost3, wpost4, ite_self, ite_true, ite_false, if_true, if_false, xlen54, un_not, bin_lss, xiad54, xld126, bin_add, fr128, wrap_int, wrap_u8, iteP_yes, iteP_no, g0, g3, hI.len Try.underlying54, hI.iad Try.underlying54 tsz126, hld, l02Place_r hX, hp'] | refine iteP_two (fun hc hd => ?_) (fun hc hd => ?_) | refine iteP_intro (fun hc => ?_) (fun hc => ?_))
          refine loop_rounds (fun mm e h2 => ∃ k : Nat, mm = i - k ∧ k ≤ i ∧ h2 = h' ∧ e 0 = x ∧ e 3 = .int .i64 i ∧ e 4 = .int .i64 k ∧ ∀ j, j < k → samB l i j = false) _ ⟨0, rfl, ?_⟩ ?_
          · simp only [updO_at, updO_not, entry_at, List.getD_cons_zero, List.getD_cons_succ, ↓reduceIte, Nat.reduceEqDiff, true_and, and_true]
            (repeat' (first | assumption | rfl | omega | (intro j hj; omega) | refine And.intro ?_ ?_))
          · rintro mm e h2 ⟨k, hmm, hkl, rfl, g0, g3, g4, b1⟩
            have hkk : (k : Int) + 1 = ((k + 1 : Nat) : Int) := by omega
            by_cases hki : k < i
            · have hld2 := IS.ldm (P := Try.prog) (t := 126) (m := 2) (c := k * 2) hI tsz126 tag126 (by omega) (by omega)
              rw [ints_2] at hld2
              have e2 : abin Try.prog .eql 126 (.agg ⟨[.int .i64 (nth l (k * 2)), .int .i64 (nth l (k * 2 + 1))]⟩) (.agg ⟨[.int .i64 (nth l (i * 2)), .int .i64 (nth l (i * 2 + 1))]⟩) = some (.bool (samB l i k)) := bin_eql2 (by decide +kernel)
              cases hs : samB l i k with
              | true =>
                rw [hs] at e2
                (repeat' first | simp -dsimp (disch := first | omega | assumption | (refine OkS.sto ?_ (by omega); first | assumption | (refine OkS.sto ?_ (by omega); first | assumption | (refine OkS.sto ?_ (by omega); first | assumption | (refine OkS.sto ?_ (by omega); first | assumption | (refine OkS.sto ?_ (by omega); first | assumption | (refine OkS.sto ?_ (by omega); first | assumption)))))) | exact Pfx.refl _ | (apply Pfx.snoc; repeat (first | exact Pfx.refl _ | assumption | apply Pfx.snoc)) | with_unfolding_all exact of_eq_true (eq_true rfl) | (simp only [List.length_append, List.length_cons, List.length_nil]; omega)) only [↓wpre0, ↓wpre1, ↓reduceIte, Int.reduceToNat, Nat.reduceAdd, Nat.reduceMul, Nat.reduceEqDiff, wpost0, wpost1, wpost2, wpost3, wpost4, ite_self, ite_true, ite_false, if_true, if_false, xlen54, un_not, bin_lss, xiad54, xld126, bin_add, fr128, wrap_int, wrap_u8, iteP_yes, iteP_no, g0, g3, g4, hI.len Try.underlying54, hI.iad Try.underlying54 tsz126, hld, hld2, e2] | refine iteP_two (fun hc hd => ?_) (fun hc hd => ?_) | refine iteP_intro (fun hc => ?_) (fun hc => ?_))
                refine ⟨false, rfl, fun q => (by cases q), fun g => ?_⟩
                have := g.df i k hin hki
                rw [hs] at this
                cases this
              | false =>
                rw [hs] at e2
                (repeat' first | simp -dsimp (disch := first | omega | assumption | (refine OkS.sto ?_ (by omega); first | assumption | (refine OkS.sto ?_ (by omega); first | assumption | (refine OkS.sto ?_ (by omega); first | assumption | (refine OkS.sto ?_ (by omega); first | assumption | (refine OkS.sto ?_ (by omega); first | assumption | (refine OkS.sto ?_ (by omega); first | assumption)))))) | exact Pfx.refl _ | (apply Pfx.snoc; repeat (first | exact Pfx.refl _ | assumption | apply Pfx.snoc)) | with_unfolding_all exact of_eq_true (eq_true rfl) | (simp only [List.length_append, List.length_cons, List.length_nil]; omega)) only [↓wpre0, ↓wpre1, ↓reduceIte, Int.reduceToNat, Nat.reduceAdd, Nat.reduceMul, Nat.reduceEqDiff, wpost0, wpost1, wpost2, wpost3, wpost4, ite_self, ite_true, ite_false, if_true, if_false, xlen54, un_not, bin_lss, xiad54, xld126, bin_add, fr128, wrap_int, wrap_u8, iteP_yes, iteP_no, g0, g3, g4, hI.len Try.underlying54, hI.iad Try.underlying54 tsz126, hld, hld2, e2] | refine iteP_two (fun hc hd => ?_) (fun hc hd => ?_) | refine iteP_intro (fun hc => ?_) (fun hc => ?_))
                refine ⟨i - (k + 1), by omega, k + 1, rfl, by omega, by rw [hkk], fun j hj => ?_⟩
                by_cases e : j = k
                · rw [e]; exact hs
                · exact b1 j (by omega)
            · have : k = i := by omega
              subst this
              (repeat' first | simp -dsimp (disch := first | omega | assumption | (refine OkS.sto ?_ (by omega); first | assumption | (refine OkS.sto ?_ (by omega); first | assumption | (refine OkS.sto ?_ (by omega); first | assumption | (refine OkS.sto ?_ (by omega); first | assumption | (refine OkS.sto ?_ (by omega); first | assumption | (refine OkS.sto ?_ (by omega); first | assumption)))))) | exact Pfx.refl _ | (apply Pfx.snoc; repeat (first | exact Pfx.refl _ | assumption | apply Pfx.snoc)) | with_unfolding_all exact of_eq_true (eq_true rfl) | (simp only [List.length_append, List.length_cons, List.length_nil]; omega)) only [↓wpre0, ↓wpre1, ↓reduceIte, Int.reduceToNat, Nat.reduceAdd, Nat.reduceMul, Nat.reduceEqDiff, wpost0, wpost1, wpost2, wpost3, wpost4, ite_self, ite_true, ite_false, if_true, if_false, xlen54, un_not, bin_lss, xiad54, xld126, bin_add, fr128, wrap_int, wrap_u8, iteP_yes, iteP_no, g0, g3, g4] | refine iteP_two (fun hc hd => ?_) (fun hc hd => ?_) | refine iteP_intro (fun hc => ?_) (fun hc => ?_))
              refine ⟨n - (k + 1), by omega, k + 1, ?_⟩
              have a1' : ∀ j, j < k + 1 → plB l j = true := fun j hj => by
                by_cases e : j = k
                · rw [e]; exact hp
                · exact a1 j (by omega)
              have a2' : ∀ j m, j < k + 1 → m < j → samB l j m = false := fun j m hj hm => by
                by_cases e : j = k
                · rw [e] at hm ⊢; exact b1 m hm
                · exact a2 j m (by omega) hm
              (repeat' (first | assumption | rfl | omega | (rw [hks]) | refine And.intro ?_ ?_))
      · have : i = n := by omega
        subst this
        (repeat' first | simp -dsimp (disch := first | omega | assumption | (refine OkS.sto ?_ (by omega); first | assumption | (refine OkS.sto ?_ (by omega); first | assumption | (refine OkS.sto ?_ (by omega); first | assumption | (refine OkS.sto ?_ (by omega); first | assumption | (refine OkS.sto ?_ (by omega); first | assumption | (refine OkS.sto ?_ (by omega); first | assumption)))))) | exact Pfx.refl _ | (apply Pfx.snoc; repeat (first | exact Pfx.refl _ | assumption | apply Pfx.snoc)) | with_unfolding_all exact of_eq_true (eq_true rfl) | (simp only [List.length_append, List.length_cons, List.length_nil]; omega)) only [↓wpre0, ↓wpre1, ↓reduceIte, Int.reduceToNat, Nat.reduceAdd, Nat.reduceMul, Nat.reduceEqDiff, wpost0, wpost1, wpost2, wpost3, wpost4, ite_self, ite_true, ite_false, if_true, if_false, xlen54, un_not, bin_lss, xiad54, xld126, bin_add, fr128, wrap_int, wrap_u8, iteP_yes, iteP_no, g0, g3, hI.len Try.underlying54] | refine iteP_two (fun hc hd => ?_) (fun hc hd => ?_) | refine iteP_intro (fun hc => ?_) (fun hc => ?_))
        exact ⟨true, rfl, fun _ => ⟨h16.1, h16.2, a1, a2⟩, fun _ => rfl⟩
  · have hw : (decide ((1 : Int) ≤ (n : Int)) && decide ((n : Int) ≤ 16)) = false := by simp; omega
    (repeat' first | simp -dsimp (disch := first | omega | assumption | (refine OkS.sto ?_ (by omega); first | assumption | (refine OkS.sto ?_ (by omega); first | assumption | (refine OkS.sto ?_ (by omega); first | assumption | (refine OkS.sto ?_ (by omega); first | assumption | (refine OkS.sto ?_ (by omega); first | assumption | (refine OkS.sto ?_ (by omega); first | assumption)))))) | exact Pfx.refl _ | (apply Pfx.snoc; repeat (first | exact Pfx.refl _ | assumption | apply Pfx.snoc)) | with_unfolding_all exact of_eq_true (eq_true rfl) | (simp only [List.length_append, List.length_cons, List.length_nil]; omega)) only [↓wpre0, ↓wpre1, ↓reduceIte, Int.reduceToNat, Nat.reduceAdd, Nat.reduceMul, Nat.reduceEqDiff, wpost0, wpost1, wpost2, wpost3, wpost4, ite_self, ite_true, ite_false, if_true, if_false, xlen54, un_not, bin_lss, xiad54, xld126, bin_add, fr128, wrap_int, wrap_u8, iteP_yes, iteP_no, hI.len Try.underlying54, l00InP_r hX, hw] | refine iteP_two (fun hc hd => ?_) (fun hc hd => ?_) | refine iteP_intro (fun hc => ?_) (fun hc => ?_))
    exact ⟨false, rfl, fun q => (by cases q), fun g => absurd ⟨g.n1, g.n16⟩ h16⟩
end Go.Proofs.Ytelogajobjflfaa.Sim
