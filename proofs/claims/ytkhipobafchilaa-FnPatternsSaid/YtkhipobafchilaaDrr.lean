/- Places, drawn: whether places are good. Lemmas only; no condition. -/
import Derived.Test.YtkhipobafchilaaDrw
import Derived.Test.YtkhipobafchilaaSimXq
import Derived.Test.YtkhipobafchilaaDrx
set_option linter.unusedSimpArgs false
set_option linter.unusedVariables false
set_option maxRecDepth 8000
namespace Go.Proofs.Ytkhipobafchilaa.Sim
open Go Go.RowKit
variable {ro lo hi : Nat} {X : Ext} {h : Heap} {x : Value} {n : Nat} {l : List Int}
/-- A number that is a coordinate. -/
def cdB (u : Int) : Bool := decide (-4096 ≤ u) && decide (u ≤ 4096)
def plB (l : List Int) (i : Nat) : Bool := cdB (nth l (i * 2)) && cdB (nth l (i * 2 + 1))
def samB (l : List Int) (i k : Nat) : Bool := decide (nth l (k * 2) = nth l (i * 2)) && decide (nth l (k * 2 + 1) = nth l (i * 2 + 1))
/-- Places that are valid. -/
structure goodP (n : Nat) (l : List Int) : Prop where
  n1 : 1 ≤ n
  n16 : n ≤ 16
  pl : ∀ i, i < n → plB l i = true
  df : ∀ i k, i < n → k < i → samB l i k = false
theorem l00InP_r (hX : XN X) (a b c : Int) (h : Heap) : Ret Try.prog ro X 46 [.int .i64 a, .int .i64 b, .int .i64 c] h (.bool (decide (b ≤ a) && decide (a ≤ c))) := by
  refine ret_of (callR_of (hX _ rfl) Try.func46 rfl (by kernel_rfl) (Nat.le_of_ble_eq_true rfl) ?_)
  (repeat' first | simp -dsimp (disch := first | omega | assumption | (refine OkS.sto ?_ (by omega); first | assumption | (refine OkS.sto ?_ (by omega); first | assumption | (refine OkS.sto ?_ (by omega); first | assumption | (refine OkS.sto ?_ (by omega); first | assumption | (refine OkS.sto ?_ (by omega); first | assumption | (refine OkS.sto ?_ (by omega); first | assumption)))))) | exact Pfx.refl _ | (apply Pfx.snoc; repeat (first | exact Pfx.refl _ | assumption | apply Pfx.snoc)) | with_unfolding_all exact of_eq_true (eq_true rfl) | (simp only [List.length_append, List.length_cons, List.length_nil]; omega)) only [↓wpre0, ↓wpre1, ↓reduceIte, Int.reduceToNat, Nat.reduceAdd, Nat.reduceMul, Nat.reduceEqDiff, wpost0, wpost1, wpost2, wpost3, wpost4, ite_self, ite_true, ite_false, if_true, if_false, bin_geq, bin_leq, fr46, wrap_int, wrap_u8, iteP_yes, iteP_no] | refine iteP_two (fun hc hd => ?_) (fun hc hd => ?_) | refine iteP_intro (fun hc => ?_) (fun hc => ?_))
  all_goals first | (simp_all; done) | (simp_all; omega) | skip
theorem l02Place_r (hX : XN X) (u v : Int) (h : Heap) : Ret Try.prog ro X 47 [.agg ⟨[.int .i64 u, .int .i64 v]⟩] h (.bool (cdB u && cdB v)) := by
  refine ret_of (callR_of (hX _ rfl) Try.func47 rfl (by kernel_rfl) (Nat.le_of_ble_eq_true rfl) ?_)
  have hb : boxV h 51 (.agg ⟨[.int .i64 u, .int .i64 v]⟩) = some (.pointer (some ⟨h.length, 0, none⟩), h ++ [⟨51, [.int .i64 u, .int .i64 v]⟩]) := box_go rfl
  have ef : ∀ b, endH (.bool b) h (h ++ [(⟨51, [.int .i64 u, .int .i64 v]⟩ : Blk)]) = h := fun b => endH_flat rfl (Pfx.refl h).snoc
  cases hu : cdB u with
  | true =>
    have hu' := hu
    unfold cdB at hu'
    (repeat' first | simp -dsimp (disch := first | omega | assumption | (refine OkS.sto ?_ (by omega); first | assumption | (refine OkS.sto ?_ (by omega); first | assumption | (refine OkS.sto ?_ (by omega); first | assumption | (refine OkS.sto ?_ (by omega); first | assumption | (refine OkS.sto ?_ (by omega); first | assumption | (refine OkS.sto ?_ (by omega); first | assumption)))))) | exact Pfx.refl _ | (apply Pfx.snoc; repeat (first | exact Pfx.refl _ | assumption | apply Pfx.snoc)) | with_unfolding_all exact of_eq_true (eq_true rfl) | (simp only [List.length_append, List.length_cons, List.length_nil]; omega)) only [↓wpre0, ↓wpre1, ↓reduceIte, Int.reduceToNat, Nat.reduceAdd, Nat.reduceMul, Nat.reduceEqDiff, wpost0, wpost1, wpost2, wpost3, wpost4, ite_self, ite_true, ite_false, if_true, if_false, xfad51_0, xld2, xfad51_1, fr47, wrap_int, wrap_u8, iteP_yes, iteP_no, hb, l00InP_r hX, hu', ef] | refine iteP_two (fun hc hd => ?_) (fun hc hd => ?_) | refine iteP_intro (fun hc => ?_) (fun hc => ?_))
    rfl
  | false =>
    have hu' := hu
    unfold cdB at hu'
    (repeat' first | simp -dsimp (disch := first | omega | assumption | (refine OkS.sto ?_ (by omega); first | assumption | (refine OkS.sto ?_ (by omega); first | assumption | (refine OkS.sto ?_ (by omega); first | assumption | (refine OkS.sto ?_ (by omega); first | assumption | (refine OkS.sto ?_ (by omega); first | assumption | (refine OkS.sto ?_ (by omega); first | assumption)))))) | exact Pfx.refl _ | (apply Pfx.snoc; repeat (first | exact Pfx.refl _ | assumption | apply Pfx.snoc)) | with_unfolding_all exact of_eq_true (eq_true rfl) | (simp only [List.length_append, List.length_cons, List.length_nil]; omega)) only [↓wpre0, ↓wpre1, ↓reduceIte, Int.reduceToNat, Nat.reduceAdd, Nat.reduceMul, Nat.reduceEqDiff, wpost0, wpost1, wpost2, wpost3, wpost4, ite_self, ite_true, ite_false, if_true, if_false, xfad51_0, xld2, xfad51_1, fr47, wrap_int, wrap_u8, iteP_yes, iteP_no, hb, l00InP_r hX, hu', ef] | refine iteP_two (fun hc hd => ?_) (fun hc hd => ?_) | refine iteP_intro (fun hc => ?_) (fun hc => ?_))
    all_goals rfl
set_option maxHeartbeats 4000000 in
theorem l02Is_c (hX : XN X) (hI : IS lo hi 2 h x n l) (hn : n ≤ 1048576) : CallR Try.prog ro X 25 [x] h (fun r h' => ∃ b, r = .bool b ∧ h' = h ∧ (b = true ↔ goodP n l)) := by
  have hl : l.length = n * 2 := hI.1
  refine callR_of (hX _ rfl) Try.func25 rfl (by kernel_rfl) (Nat.le_of_ble_eq_true rfl) ?_
  by_cases h16 : 1 ≤ n ∧ n ≤ 16
  · have hw : (decide ((1 : Int) ≤ (n : Int)) && decide ((n : Int) ≤ 16)) = true := by simp; omega
    (repeat' first | simp -dsimp (disch := first | omega | assumption | (refine OkS.sto ?_ (by omega); first | assumption | (refine OkS.sto ?_ (by omega); first | assumption | (refine OkS.sto ?_ (by omega); first | assumption | (refine OkS.sto ?_ (by omega); first | assumption | (refine OkS.sto ?_ (by omega); first | assumption | (refine OkS.sto ?_ (by omega); first | assumption)))))) | exact Pfx.refl _ | (apply Pfx.snoc; repeat (first | exact Pfx.refl _ | assumption | apply Pfx.snoc)) | with_unfolding_all exact of_eq_true (eq_true rfl) | (simp only [List.length_append, List.length_cons, List.length_nil]; omega)) only [↓wpre0, ↓wpre1, ↓reduceIte, Int.reduceToNat, Nat.reduceAdd, Nat.reduceMul, Nat.reduceEqDiff, wpost0, wpost1, wpost2, wpost3, wpost4, ite_self, ite_true, ite_false, if_true, if_false, xlen24, un_not, bin_lss, xiad24, xld51, bin_add, fr25, wrap_int, wrap_u8, iteP_yes, iteP_no, hI.len Try.underlying24, l00InP_r hX, hw] | refine iteP_two (fun hc hd => ?_) (fun hc hd => ?_) | refine iteP_intro (fun hc => ?_) (fun hc => ?_))
    refine loop_rounds (fun mm e h' => ∃ i : Nat, mm = n - i ∧ i ≤ n ∧ h' = h ∧ e 0 = x ∧ e 3 = .int .i64 i ∧ (∀ j, j < i → plB l j = true) ∧ ∀ j k, j < i → k < j → samB l j k = false) _ ⟨0, rfl, ?_⟩ ?_
    · simp only [updO_at, updO_not, entry_at, List.getD_cons_zero, List.getD_cons_succ, ↓reduceIte, Nat.reduceEqDiff, true_and, and_true]
      (repeat' (first | assumption | rfl | omega | (intro j hj; omega) | (intro j k hj; omega) | refine And.intro ?_ ?_))
    · rintro mm e h' ⟨i, hmm, hle, rfl, g0, g3, a1, a2⟩
      have hks : (i : Int) + 1 = ((i + 1 : Nat) : Int) := by omega
      by_cases hin : i < n
      · have hld := IS.ldm (P := Try.prog) (t := 51) (m := 2) (c := i * 2) hI tsz51 tag51 (by omega) (by omega)
        rw [ints_2] at hld
        cases hp : plB l i with
        | false =>
          have hp' := hp
          unfold plB at hp'
          (repeat' first | simp -dsimp (disch := first | omega | assumption | (refine OkS.sto ?_ (by omega); first | assumption | (refine OkS.sto ?_ (by omega); first | assumption | (refine OkS.sto ?_ (by omega); first | assumption | (refine OkS.sto ?_ (by omega); first | assumption | (refine OkS.sto ?_ (by omega); first | assumption | (refine OkS.sto ?_ (by omega); first | assumption)))))) | exact Pfx.refl _ | (apply Pfx.snoc; repeat (first | exact Pfx.refl _ | assumption | apply Pfx.snoc)) | with_unfolding_all exact of_eq_true (eq_true rfl) | (simp only [List.length_append, List.length_cons, List.length_nil]; omega)) only [↓wpre0, ↓wpre1, ↓reduceIte, Int.reduceToNat, Nat.reduceAdd, Nat.reduceMul, Nat.reduceEqDiff, wpost0, wpost1, wpost2, wpost3, wpost4, ite_self, ite_true, ite_false, if_true, if_false, xlen24, un_not, bin_lss, xiad24, xld51, bin_add, fr25, wrap_int, wrap_u8, iteP_yes, iteP_no, g0, g3, hI.len Try.underlying24, hI.iad Try.underlying24 tsz51, hld, l02Place_r hX, hp'] | refine iteP_two (fun hc hd => ?_) (fun hc hd => ?_) | refine iteP_intro (fun hc => ?_) (fun hc => ?_))
          refine ⟨false, rfl, fun q => (by cases q), fun g => ?_⟩
          have := g.pl i hin
          rw [hp] at this
          cases this
        | true =>
          have hp' := hp
          unfold plB at hp'
          (repeat' first | simp -dsimp (disch := first | omega | assumption | (refine OkS.sto ?_ (by omega); first | assumption | (refine OkS.sto ?_ (by omega); first | assumption | (refine OkS.sto ?_ (by omega); first | assumption | (refine OkS.sto ?_ (by omega); first | assumption | (refine OkS.sto ?_ (by omega); first | assumption | (refine OkS.sto ?_ (by omega); first | assumption)))))) | exact Pfx.refl _ | (apply Pfx.snoc; repeat (first | exact Pfx.refl _ | assumption | apply Pfx.snoc)) | with_unfolding_all exact of_eq_true (eq_true rfl) | (simp only [List.length_append, List.length_cons, List.length_nil]; omega)) only [↓wpre0, ↓wpre1, ↓reduceIte, Int.reduceToNat, Nat.reduceAdd, Nat.reduceMul, Nat.reduceEqDiff, wpost0, wpost1, wpost2, wpost3, wpost4, ite_self, ite_true, ite_false, if_true, if_false, xlen24, un_not, bin_lss, xiad24, xld51, bin_add, fr25, wrap_int, wrap_u8, iteP_yes, iteP_no, g0, g3, hI.len Try.underlying24, hI.iad Try.underlying24 tsz51, hld, l02Place_r hX, hp'] | refine iteP_two (fun hc hd => ?_) (fun hc hd => ?_) | refine iteP_intro (fun hc => ?_) (fun hc => ?_))
          refine loop_rounds (fun mm e h2 => ∃ k : Nat, mm = i - k ∧ k ≤ i ∧ h2 = h' ∧ e 0 = x ∧ e 3 = .int .i64 i ∧ e 4 = .int .i64 k ∧ ∀ j, j < k → samB l i j = false) _ ⟨0, rfl, ?_⟩ ?_
          · simp only [updO_at, updO_not, entry_at, List.getD_cons_zero, List.getD_cons_succ, ↓reduceIte, Nat.reduceEqDiff, true_and, and_true]
            (repeat' (first | assumption | rfl | omega | (intro j hj; omega) | refine And.intro ?_ ?_))
          · rintro mm e h2 ⟨k, hmm, hkl, rfl, g0, g3, g4, b1⟩
            have hkk : (k : Int) + 1 = ((k + 1 : Nat) : Int) := by omega
            by_cases hki : k < i
            · have hld2 := IS.ldm (P := Try.prog) (t := 51) (m := 2) (c := k * 2) hI tsz51 tag51 (by omega) (by omega)
              rw [ints_2] at hld2
              have e2 : abin Try.prog .eql 51 (.agg ⟨[.int .i64 (nth l (k * 2)), .int .i64 (nth l (k * 2 + 1))]⟩) (.agg ⟨[.int .i64 (nth l (i * 2)), .int .i64 (nth l (i * 2 + 1))]⟩) = some (.bool (samB l i k)) := bin_eql2 (by decide +kernel)
              cases hs : samB l i k with
              | true =>
                rw [hs] at e2
                (repeat' first | simp -dsimp (disch := first | omega | assumption | (refine OkS.sto ?_ (by omega); first | assumption | (refine OkS.sto ?_ (by omega); first | assumption | (refine OkS.sto ?_ (by omega); first | assumption | (refine OkS.sto ?_ (by omega); first | assumption | (refine OkS.sto ?_ (by omega); first | assumption | (refine OkS.sto ?_ (by omega); first | assumption)))))) | exact Pfx.refl _ | (apply Pfx.snoc; repeat (first | exact Pfx.refl _ | assumption | apply Pfx.snoc)) | with_unfolding_all exact of_eq_true (eq_true rfl) | (simp only [List.length_append, List.length_cons, List.length_nil]; omega)) only [↓wpre0, ↓wpre1, ↓reduceIte, Int.reduceToNat, Nat.reduceAdd, Nat.reduceMul, Nat.reduceEqDiff, wpost0, wpost1, wpost2, wpost3, wpost4, ite_self, ite_true, ite_false, if_true, if_false, xlen24, un_not, bin_lss, xiad24, xld51, bin_add, fr25, wrap_int, wrap_u8, iteP_yes, iteP_no, g0, g3, g4, hI.len Try.underlying24, hI.iad Try.underlying24 tsz51, hld, hld2, e2] | refine iteP_two (fun hc hd => ?_) (fun hc hd => ?_) | refine iteP_intro (fun hc => ?_) (fun hc => ?_))
                refine ⟨false, rfl, fun q => (by cases q), fun g => ?_⟩
                have := g.df i k hin hki
                rw [hs] at this
                cases this
              | false =>
                rw [hs] at e2
                (repeat' first | simp -dsimp (disch := first | omega | assumption | (refine OkS.sto ?_ (by omega); first | assumption | (refine OkS.sto ?_ (by omega); first | assumption | (refine OkS.sto ?_ (by omega); first | assumption | (refine OkS.sto ?_ (by omega); first | assumption | (refine OkS.sto ?_ (by omega); first | assumption | (refine OkS.sto ?_ (by omega); first | assumption)))))) | exact Pfx.refl _ | (apply Pfx.snoc; repeat (first | exact Pfx.refl _ | assumption | apply Pfx.snoc)) | with_unfolding_all exact of_eq_true (eq_true rfl) | (simp only [List.length_append, List.length_cons, List.length_nil]; omega)) only [↓wpre0, ↓wpre1, ↓reduceIte, Int.reduceToNat, Nat.reduceAdd, Nat.reduceMul, Nat.reduceEqDiff, wpost0, wpost1, wpost2, wpost3, wpost4, ite_self, ite_true, ite_false, if_true, if_false, xlen24, un_not, bin_lss, xiad24, xld51, bin_add, fr25, wrap_int, wrap_u8, iteP_yes, iteP_no, g0, g3, g4, hI.len Try.underlying24, hI.iad Try.underlying24 tsz51, hld, hld2, e2] | refine iteP_two (fun hc hd => ?_) (fun hc hd => ?_) | refine iteP_intro (fun hc => ?_) (fun hc => ?_))
                refine ⟨i - (k + 1), by omega, k + 1, rfl, by omega, by rw [hkk], fun j hj => ?_⟩
                by_cases e : j = k
                · rw [e]; exact hs
                · exact b1 j (by omega)
            · have : k = i := by omega
              subst this
              (repeat' first | simp -dsimp (disch := first | omega | assumption | (refine OkS.sto ?_ (by omega); first | assumption | (refine OkS.sto ?_ (by omega); first | assumption | (refine OkS.sto ?_ (by omega); first | assumption | (refine OkS.sto ?_ (by omega); first | assumption | (refine OkS.sto ?_ (by omega); first | assumption | (refine OkS.sto ?_ (by omega); first | assumption)))))) | exact Pfx.refl _ | (apply Pfx.snoc; repeat (first | exact Pfx.refl _ | assumption | apply Pfx.snoc)) | with_unfolding_all exact of_eq_true (eq_true rfl) | (simp only [List.length_append, List.length_cons, List.length_nil]; omega)) only [↓wpre0, ↓wpre1, ↓reduceIte, Int.reduceToNat, Nat.reduceAdd, Nat.reduceMul, Nat.reduceEqDiff, wpost0, wpost1, wpost2, wpost3, wpost4, ite_self, ite_true, ite_false, if_true, if_false, xlen24, un_not, bin_lss, xiad24, xld51, bin_add, fr25, wrap_int, wrap_u8, iteP_yes, iteP_no, g0, g3, g4] | refine iteP_two (fun hc hd => ?_) (fun hc hd => ?_) | refine iteP_intro (fun hc => ?_) (fun hc => ?_))
              refine ⟨n - (k + 1), by omega, k + 1, ?_⟩
              have a1' : ∀ j, j < k + 1 → plB l j = true := fun j hj => by
                by_cases e : j = k
                · rw [e]; exact hp
                · exact a1 j (by omega)
              have a2' : ∀ j m, j < k + 1 → m < j → samB l j m = false := fun j m hj hm => by
                by_cases e : j = k
                · rw [e] at hm ⊢; exact b1 m hm
                · exact a2 j m (by omega) hm
              (repeat' (first | assumption | rfl | omega | (rw [hks]) | refine And.intro ?_ ?_))
      · have : i = n := by omega
        subst this
        (repeat' first | simp -dsimp (disch := first | omega | assumption | (refine OkS.sto ?_ (by omega); first | assumption | (refine OkS.sto ?_ (by omega); first | assumption | (refine OkS.sto ?_ (by omega); first | assumption | (refine OkS.sto ?_ (by omega); first | assumption | (refine OkS.sto ?_ (by omega); first | assumption | (refine OkS.sto ?_ (by omega); first | assumption)))))) | exact Pfx.refl _ | (apply Pfx.snoc; repeat (first | exact Pfx.refl _ | assumption | apply Pfx.snoc)) | with_unfolding_all exact of_eq_true (eq_true rfl) | (simp only [List.length_append, List.length_cons, List.length_nil]; omega)) only [↓wpre0, ↓wpre1, ↓reduceIte, Int.reduceToNat, Nat.reduceAdd, Nat.reduceMul, Nat.reduceEqDiff, wpost0, wpost1, wpost2, wpost3, wpost4, ite_self, ite_true, ite_false, if_true, if_false, xlen24, un_not, bin_lss, xiad24, xld51, bin_add, fr25, wrap_int, wrap_u8, iteP_yes, iteP_no, g0, g3, hI.len Try.underlying24] | refine iteP_two (fun hc hd => ?_) (fun hc hd => ?_) | refine iteP_intro (fun hc => ?_) (fun hc => ?_))
        exact ⟨true, rfl, fun _ => ⟨h16.1, h16.2, a1, a2⟩, fun _ => rfl⟩
  · have hw : (decide ((1 : Int) ≤ (n : Int)) && decide ((n : Int) ≤ 16)) = false := by simp; omega
    (repeat' first | simp -dsimp (disch := first | omega | assumption | (refine OkS.sto ?_ (by omega); first | assumption | (refine OkS.sto ?_ (by omega); first | assumption | (refine OkS.sto ?_ (by omega); first | assumption | (refine OkS.sto ?_ (by omega); first | assumption | (refine OkS.sto ?_ (by omega); first | assumption | (refine OkS.sto ?_ (by omega); first | assumption)))))) | exact Pfx.refl _ | (apply Pfx.snoc; repeat (first | exact Pfx.refl _ | assumption | apply Pfx.snoc)) | with_unfolding_all exact of_eq_true (eq_true rfl) | (simp only [List.length_append, List.length_cons, List.length_nil]; omega)) only [↓wpre0, ↓wpre1, ↓reduceIte, Int.reduceToNat, Nat.reduceAdd, Nat.reduceMul, Nat.reduceEqDiff, wpost0, wpost1, wpost2, wpost3, wpost4, ite_self, ite_true, ite_false, if_true, if_false, xlen24, un_not, bin_lss, xiad24, xld51, bin_add, fr25, wrap_int, wrap_u8, iteP_yes, iteP_no, hI.len Try.underlying24, l00InP_r hX, hw] | refine iteP_two (fun hc hd => ?_) (fun hc hd => ?_) | refine iteP_intro (fun hc => ?_) (fun hc => ?_))
    exact ⟨false, rfl, fun q => (by cases q), fun g => absurd ⟨g.n1, g.n16⟩ h16⟩
end Go.Proofs.Ytkhipobafchilaa.Sim

/- Places, drawn. Lemmas only; no condition. -/
set_option linter.unusedSimpArgs false
set_option linter.unusedVariables false
set_option maxRecDepth 8000
namespace Go.Proofs.Ytkhipobafchilaa.Sim
open Go Go.RowKit
variable {ro lo hi b A : Nat} {X : Ext} {h : Heap} {x y : Value} {cd : List UInt8}
/-- The operations of a region. -/
def findR (i : Nat) : Code → Option (Array Oper)
  | .seq a b => match findR i a with | some r => some r | none => findR i b
  | .cond _ a b => match findR i a with | some r => some r | none => findR i b
  | .block _ c => findR i c
  | .loop c => findR i c
  | .region j ops _ => if j = i then some ops else none
  | _ => none
theorem all_one_ints (l : List Int) : (vints l).all one = true := by simp [vints, List.all_eq_true, one, Value.oneCell']
theorem ren_new (H : Heap) (pl : List Nat) (i j o len cap : Nat) (hj : pl.getD i 0 = j) : Ren (fun b => if b < H.length then b else H.length + pl.getD (b - H.length) 0) (.slice (some ⟨H.length + i, o, none⟩) len cap) (.slice (some ⟨H.length + j, o, none⟩) len cap) :=
  .slc _ _ _ _ _ (by show _ = if H.length + i < H.length then _ else _; rw [if_neg (by omega), Nat.add_sub_cancel_left, hj])
theorem ren_old (H : Heap) (pl : List Nat) (i o len cap : Nat) (hi : i < H.length) : Ren (fun b => if b < H.length then b else H.length + pl.getD (b - H.length) 0) (.slice (some ⟨i, o, none⟩) len cap) (.slice (some ⟨i, o, none⟩) len cap) :=
  .slc _ _ _ _ _ (by show _ = if i < H.length then _ else _; rw [if_pos hi])
theorem equ_go {P : Program} {H t1 t2 : Heap} {e e1 e2 : Env} {T : TypeId} (m : Nat) (pl sl : List Nat) (L1 L2 : List (List Int)) (hro : ro ≤ H.length) (h1 : t1 = L1.map fun cs => ⟨T, vints cs⟩) (h2 : t2 = L2.map fun cs => ⟨T, vints cs⟩) (hm1 : L1.length = m) (hm2 : L2.length = m)
    (hto : ∀ k, k < m → pl.getD k 0 < m ∧ sl.getD (pl.getD k 0) 0 = k) (hof : ∀ k, k < m → sl.getD k 0 < m ∧ pl.getD (sl.getD k 0) 0 = k) (hb : L1 = (List.range m).map fun k => L2.getD (pl.getD k 0) [])
    (h0 : ∀ t, t ≠ 35 → t ≠ 36 → t ≠ 37 → t ≠ 38 → t ≠ 39 → t ≠ 40 → t ≠ 8 → e1 t = e t ∧ e2 t = e t)
    (q35 : Ren (fun b => if b < H.length then b else H.length + pl.getD (b - H.length) 0) (e1 35) (e2 35))
    (q36 : Ren (fun b => if b < H.length then b else H.length + pl.getD (b - H.length) 0) (e1 36) (e2 36))
    (q37 : Ren (fun b => if b < H.length then b else H.length + pl.getD (b - H.length) 0) (e1 37) (e2 37))
    (q38 : Ren (fun b => if b < H.length then b else H.length + pl.getD (b - H.length) 0) (e1 38) (e2 38))
    (q39 : Ren (fun b => if b < H.length then b else H.length + pl.getD (b - H.length) 0) (e1 39) (e2 39))
    (q40 : Ren (fun b => if b < H.length then b else H.length + pl.getD (b - H.length) 0) (e1 40) (e2 40))
    (q8 : Ren (fun b => if b < H.length then b else H.length + pl.getD (b - H.length) 0) (e1 8) (e2 8)) : Equ P ro e H (e1, H ++ t1) (e2, H ++ t2) := by
  have l1 : t1.length = m := by rw [h1, List.length_map, hm1]
  have l2 : t2.length = m := by rw [h2, List.length_map, hm2]
  refine Swap.equ (N := 0) (π := fun k => pl.getD k 0) (σ := fun k => sl.getD k 0) ⟨by omega, by rw [l1]; exact hto, by rw [l1]; exact hof, ?_, fun t => ?_⟩ hro
  · intro k A hk hA
    rw [l1] at hk
    have hj := (hto k hk).1
    have e1' : L1[k]? = some (L2.getD (pl.getD k 0) []) := by rw [hb]; simp [hk]
    rw [h1, List.getElem?_map, e1'] at hA
    cases hA
    refine ⟨⟨T, vints (L2.getD (pl.getD k 0) [])⟩, ?_, rfl, Rens.ints _⟩
    rw [h2, List.getElem?_map, List.getElem?_eq_getElem (by omega)]
    have hj2 : pl.getD k 0 < L2.length := by omega
    simp only [Option.map_some, List.getD_eq_getElem?_getD (l := L2), List.getElem?_eq_getElem hj2, Option.getD_some]
  · by_cases n1 : t = 35
    · rw [n1]; exact .inr q35
    by_cases n2 : t = 36
    · rw [n2]; exact .inr q36
    by_cases n3 : t = 37
    · rw [n3]; exact .inr q37
    by_cases n4 : t = 38
    · rw [n4]; exact .inr q38
    by_cases n5 : t = 39
    · rw [n5]; exact .inr q39
    by_cases n6 : t = 40
    · rw [n6]; exact .inr q40
    by_cases n7 : t = 8
    · rw [n7]; exact .inr q8
    exact .inl (h0 t n1 n2 n3 n4 n5 n6 n7)
theorem r13 {ops : Array Oper} {c : Code} (hc : Try.f24.body = some c) (hr : findR 13 c = some ops) {e : Env} {H : Heap} {Q : Ex → Env → Heap → Prop} {yb yc n bp : Nat} {l : List Int} {u v : Int} (hro : ro ≤ H.length)
    (g4 : e 4 = .slice (some ⟨yb, 0, none⟩) n yc) (g7 : e 7 = .pointer (some ⟨bp, 0, none⟩)) (hD : H[yb]? = some ⟨51, vints l⟩) (hll : l.length = n * 2) (hP : H[bp]? = some ⟨51, [.int .i64 u, .int .i64 v]⟩) (hn : n ≤ 16)
    (k : ∀ (e' : Env) (H' : Heap) (db dc : Nat), (∀ t, t < 35 → t ≠ 8 → e' t = e t) → e' 8 = .slice (some ⟨db, 0, none⟩) (n + 1) dc → H.length ≤ db → H'[db]? = some ⟨51, vints (l ++ [u, v])⟩ → Pfx H H' → Q .normal e' H') :
    WG Try.prog ro X (.region 13 ops true) Q e H := by
  cases hc
  have hx : findR 13 _ = some _ := hr
  simp only [findR, Nat.reduceEqDiff, if_false, if_true] at hx
  cases hx
  clear hr
  have apA : ∀ (G : Heap) (a : Nat), ro ≤ a → G[a]? = some (⟨51, []⟩ : Blk) → G[yb]? = some (⟨51, vints l⟩ : Blk) → ablt Try.prog ro .append [24, 24] [.slice (some ⟨a, 0, none⟩) 0 0, .slice (some ⟨yb, 0, none⟩) n yc] G = if n = 0 then some (.slice (some ⟨a, 0, none⟩) 0 0, G) else some (.slice (some ⟨G.length, 0, none⟩) n (n + 1), G ++ [(⟨51, vints l⟩ : Blk)]) := by
    intro G a hra hA hY
    by_cases h0 : n = 0
    · rw [if_pos h0]
      subst h0
      exact ablt_ap0 (k := 2) tel24 tsz51 tby51 tze51 (by decide) (.inl rfl) (old := []) (by simp [rowOf, hA]) (news_blk (j := 0) hY (by simpa [vints] using hll)) rfl
    · rw [if_neg h0]
      have g : VN ro 51 2 G (.slice (some ⟨a, 0, none⟩) 0 0) 0 [] := .inl ⟨rfl, a, 0, rfl, hra, hA, fun _ => rfl⟩
      have ap := ablt_apv (ro := ro) tel24 tsz51 tby51 tze51 (by decide) (.inl rfl) g (Nat.le_refl _) (y := .slice (some ⟨yb, 0, none⟩) n yc) (M := vints l) (m := n) (news_blk (j := n) hY (by simpa [vints] using hll)) rfl (by simpa [vints] using hll) (by omega) (all_one_ints _) (by omega) (by omega)
      rw [ap]
      simp only [Nat.zero_add, List.nil_append]
      unfold apv
      rw [if_pos (show capOf (.slice (some ⟨a, 0, none⟩) 0 0) = 0 from rfl)]
  have apB : ∀ (G : Heap) (c d : Nat), G[c]? = some (⟨51, vints l⟩ : Blk) → ro ≤ c → 0 < n → G[d]? = some (⟨51, [.int .i64 u, .int .i64 v]⟩ : Blk) → ablt Try.prog ro .append [24, 24] [.slice (some ⟨c, 0, none⟩) n (n + 1), .slice (some ⟨d, 0, none⟩) 1 1] G = some (.slice (some ⟨G.length, 0, none⟩) (n + 1) (n + 2), G.set c (⟨51, []⟩ : Blk) ++ [(⟨51, vints (l ++ [u, v])⟩ : Blk)]) := by
    intro G c d hC hrc hn0 hd
    have g : VN ro 51 2 G (.slice (some ⟨c, 0, none⟩) n (n + 1)) n (vints l) := .inl ⟨by simpa [vints] using hll, c, n + 1, rfl, hrc, hC, fun q => absurd q (by omega)⟩
    have ap := ablt_apv (ro := ro) tel24 tsz51 tby51 tze51 (by decide) (.inl rfl) g (Nat.le_refl _) (y := .slice (some ⟨d, 0, none⟩) 1 1) (M := vints [u, v]) (m := 1) (news_blk (j := 1) hd rfl) rfl rfl (by omega) (all_one_ints _) (by omega) (by omega)
    rw [ap]
    unfold apv
    rw [if_neg (show ¬ capOf (.slice (some ⟨c, 0, none⟩) n (n + 1)) = n from fun q => absurd (show n + 1 = n from q) (by omega))]
    simp [vints, bOf]
  have apC : ∀ (G : Heap) (c d : Nat), G[c]? = some (⟨51, []⟩ : Blk) → ro ≤ c → G[d]? = some (⟨51, [.int .i64 u, .int .i64 v]⟩ : Blk) → ablt Try.prog ro .append [24, 24] [.slice (some ⟨c, 0, none⟩) 0 0, .slice (some ⟨d, 0, none⟩) 1 1] G = some (.slice (some ⟨G.length, 0, none⟩) 1 2, G ++ [(⟨51, [.int .i64 u, .int .i64 v]⟩ : Blk)]) := by
    intro G c d hC hrc hd
    have g : VN ro 51 2 G (.slice (some ⟨c, 0, none⟩) 0 0) 0 [] := .inl ⟨rfl, c, 0, rfl, hrc, hC, fun _ => rfl⟩
    have ap := ablt_apv (ro := ro) tel24 tsz51 tby51 tze51 (by decide) (.inl rfl) g (Nat.le_refl _) (y := .slice (some ⟨d, 0, none⟩) 1 1) (M := vints [u, v]) (m := 1) (news_blk (j := 1) hd rfl) rfl rfl (by omega) (all_one_ints _) (by omega) (by omega)
    rw [ap]
    unfold apv
    rw [if_pos (show capOf (.slice (some ⟨c, 0, none⟩) 0 0) = 0 from rfl)]
    rfl
  have hlH := (List.getElem?_eq_some_iff.1 hP).1
  have hlY := (List.getElem?_eq_some_iff.1 hD).1
  have cl : ∀ G : Heap, Pfx H G → cells G bp 0 2 = some (.agg ⟨[.int .i64 u, .int .i64 v]⟩) := by
    intro G p
    have := (p.get hlH).trans hP
    simp [cells, this]
  have hlen : ∀ (G : Heap) (C : Blk), (G ++ [C]).length = G.length + 1 := fun G C => by simp
  have c0 := cl H (Pfx.refl H)
  have hG : ∀ G : Heap, Pfx H G → G[yb]? = some (⟨51, vints l⟩ : Blk) := fun G p => (p.get hlY).trans hD
  rcases Nat.eq_zero_or_pos n with h0 | h0
  · subst h0
    have : l = [] := List.length_eq_zero_iff.1 (by omega)
    subst this
    have c1 := cl _ ((Pfx.refl H).snoc (C := (⟨51, []⟩ : Blk)))
    have q1 := apA (H ++ [(⟨51, []⟩ : Blk)]) H.length (by omega) (by simp) (hG _ (Pfx.refl H).snoc)
    have q2 := apA (H ++ [(⟨51, []⟩ : Blk)] ++ [(⟨51, [.int .i64 u, .int .i64 v]⟩ : Blk)]) H.length (by omega) (by simp) (hG _ (Pfx.refl H).snoc.snoc)
    have q3 := apA (H ++ [(⟨51, [.int .i64 u, .int .i64 v]⟩ : Blk)] ++ [(⟨51, []⟩ : Blk)]) (H.length + 1) (by omega) (by simp) (hG _ (Pfx.refl H).snoc.snoc)
    have q4 := apC (H ++ [(⟨51, []⟩ : Blk)] ++ [(⟨51, [.int .i64 u, .int .i64 v]⟩ : Blk)]) H.length (H.length + 1) (by simp) (by omega) (by simp)
    have q5 := apC (H ++ [(⟨51, [.int .i64 u, .int .i64 v]⟩ : Blk)] ++ [(⟨51, []⟩ : Blk)]) (H.length + 1) H.length (by simp) (by omega) (by simp)
    simp only [if_true] at q1 q2 q3
    simp only [hlen, Nat.add_assoc, Nat.reduceAdd] at q4 q5
    refine WG_permW (e2 := (updO (updO (updO (updO (updO (updO (updO e (some 35) (.slice (some ⟨H.length, 0, none⟩) 0 0)) (some 36) (.slice (some ⟨yb, 0, none⟩) 0 yc)) (some 37) (.slice (some ⟨H.length, 0, none⟩) 0 0)) (some 38) (.agg ⟨[.int .i64 u, .int .i64 v]⟩)) (some 39) (.slice (some ⟨H.length + 1, 0, none⟩) 1 1)) (some 40) (.slice (some ⟨H.length + 2, 0, none⟩) 1 2)) (some 8) (.slice (some ⟨H.length + 2, 0, none⟩) 1 2))) (h2 := H ++ [(⟨51, []⟩ : Blk)] ++ [(⟨51, [.int .i64 u, .int .i64 v]⟩ : Blk)] ++ [(⟨51, [.int .i64 u, .int .i64 v]⟩ : Blk)]) [[0, 1, 2, 3, 4, 5, 6], [0, 1, 3, 2, 4, 5, 6], [0, 1, 3, 4, 2, 5, 6], [0, 3, 1, 2, 4, 5, 6], [0, 3, 1, 4, 2, 5, 6], [0, 3, 4, 1, 2, 5, 6], [1, 0, 2, 3, 4, 5, 6], [1, 0, 3, 2, 4, 5, 6], [1, 0, 3, 4, 2, 5, 6], [1, 3, 0, 2, 4, 5, 6], [1, 3, 0, 4, 2, 5, 6], [1, 3, 4, 0, 2, 5, 6], [3, 0, 1, 2, 4, 5, 6], [3, 0, 1, 4, 2, 5, 6], [3, 0, 4, 1, 2, 5, 6], [3, 1, 0, 2, 4, 5, 6], [3, 1, 0, 4, 2, 5, 6], [3, 1, 4, 0, 2, 5, 6], [3, 4, 0, 1, 2, 5, 6], [3, 4, 1, 0, 2, 5, 6]] (by kernel_rfl) (by kernel_rfl) (by kernel_rfl) ?_ ?_ ?_
    · (repeat' first | simp -dsimp (disch := first | omega | assumption | (refine OkS.sto ?_ (by omega); first | assumption | (refine OkS.sto ?_ (by omega); first | assumption | (refine OkS.sto ?_ (by omega); first | assumption | (refine OkS.sto ?_ (by omega); first | assumption | (refine OkS.sto ?_ (by omega); first | assumption | (refine OkS.sto ?_ (by omega); first | assumption)))))) | exact Pfx.refl _ | (apply Pfx.snoc; repeat (first | exact Pfx.refl _ | assumption | apply Pfx.snoc)) | with_unfolding_all exact of_eq_true (eq_true rfl) | (simp only [List.length_append, List.length_cons, List.length_nil]; omega)) only [↓wpre0, ↓wpre1, ↓reduceIte, Int.reduceToNat, Nat.reduceAdd, Nat.reduceMul, Nat.reduceEqDiff, wpost0, wpost1, wpost2, wpost3, wpost4, ite_self, ite_true, ite_false, if_true, if_false, bin_add, xbls24_0, xbls24_1, bin_lss, bin_mul, xbld51_0, tze51, xst51, un_not, bin_sub, xfad51_0, xst2, xfad51_1, xld51, fr24, wrap_int, wrap_u8, iteP_yes, iteP_no, g4, g7, c0, c1, q1, q2, q3, q4, q5, hlen, Nat.add_assoc, Nat.reduceAdd] | refine iteP_two (fun hc hd => ?_) (fun hc hd => ?_) | refine iteP_intro (fun hc => ?_) (fun hc => ?_))
    · intro σ hσ
      simp only [List.mem_cons, List.not_mem_nil, or_false] at hσ
      rcases hσ with rfl | rfl | rfl | rfl | rfl | rfl | rfl | rfl | rfl | rfl | rfl | rfl | rfl | rfl | rfl | rfl | rfl | rfl | rfl | rfl
      all_goals simp only [opsAt, List.filterMap_cons, List.filterMap_nil, List.getElem?_toArray, List.getElem?_cons_zero, List.getElem?_cons_succ]
      all_goals (repeat' first | simp -dsimp (disch := first | omega | assumption | (refine OkS.sto ?_ (by omega); first | assumption | (refine OkS.sto ?_ (by omega); first | assumption | (refine OkS.sto ?_ (by omega); first | assumption | (refine OkS.sto ?_ (by omega); first | assumption | (refine OkS.sto ?_ (by omega); first | assumption | (refine OkS.sto ?_ (by omega); first | assumption)))))) | exact Pfx.refl _ | (apply Pfx.snoc; repeat (first | exact Pfx.refl _ | assumption | apply Pfx.snoc)) | with_unfolding_all exact of_eq_true (eq_true rfl) | (simp only [List.length_append, List.length_cons, List.length_nil]; omega)) only [↓wpre0, ↓wpre1, ↓reduceIte, Int.reduceToNat, Nat.reduceAdd, Nat.reduceMul, Nat.reduceEqDiff, wpost0, wpost1, wpost2, wpost3, wpost4, ite_self, ite_true, ite_false, if_true, if_false, bin_add, xbls24_0, xbls24_1, bin_lss, bin_mul, xbld51_0, tze51, xst51, un_not, bin_sub, xfad51_0, xst2, xfad51_1, xld51, fr24, wrap_int, wrap_u8, iteP_yes, iteP_no, g4, g7, c0, c1, q1, q2, q3, q4, q5, hlen, Nat.add_assoc, Nat.reduceAdd] | refine iteP_two (fun hc hd => ?_) (fun hc hd => ?_) | refine iteP_intro (fun hc => ?_) (fun hc => ?_))
      all_goals simp only [List.append_assoc, List.cons_append, List.nil_append]
      all_goals first
        | exact equ_go (T := 51) 3 [0, 1, 2] [0, 1, 2] [[], [u, v], [u, v]] [[], [u, v], [u, v]] hro rfl rfl rfl rfl (by decide) (by decide) rfl (fun t n1 n2 n3 n4 n5 n6 n7 => by simp only [updO_some, upd_at, n1, n2, n3, n4, n5, n6, n7, ↓reduceIte, and_self]) (ren_new H _ 0 0 _ _ _ rfl) (ren_old H _ _ _ _ _ hlY) (ren_new H _ 0 0 _ _ _ rfl) (.agg _ _ (Rens.ints [u, v])) (ren_new H _ 1 1 _ _ _ rfl) (ren_new H _ 2 2 _ _ _ rfl) (ren_new H _ 2 2 _ _ _ rfl)
        | exact equ_go (T := 51) 3 [1, 0, 2] [1, 0, 2] [[u, v], [], [u, v]] [[], [u, v], [u, v]] hro rfl rfl rfl rfl (by decide) (by decide) rfl (fun t n1 n2 n3 n4 n5 n6 n7 => by simp only [updO_some, upd_at, n1, n2, n3, n4, n5, n6, n7, ↓reduceIte, and_self]) (ren_new H _ 1 0 _ _ _ rfl) (ren_old H _ _ _ _ _ hlY) (ren_new H _ 1 0 _ _ _ rfl) (.agg _ _ (Rens.ints [u, v])) (ren_new H _ 0 1 _ _ _ rfl) (ren_new H _ 2 2 _ _ _ rfl) (ren_new H _ 2 2 _ _ _ rfl)
    · refine k _ _ (H.length + 2) 2 (fun t h1 h2 => ?_) rfl (by omega) ?_ ?_
      · simp only [updO_some, upd_at, h2, show t ≠ 35 by omega, show t ≠ 36 by omega, show t ≠ 37 by omega, show t ≠ 38 by omega, show t ≠ 39 by omega, show t ≠ 40 by omega, ↓reduceIte]
      · exact get_last (by simp)
      · exact (Pfx.refl H).snoc.snoc.snoc
  · have hne : n ≠ 0 := by omega
    have c1 := cl _ ((Pfx.refl H).snoc (C := (⟨51, []⟩ : Blk)))
    have c2 := cl _ ((Pfx.refl H).snoc (C := (⟨51, []⟩ : Blk)) |>.snoc (C := (⟨51, vints l⟩ : Blk)))
    have q1 := apA (H ++ [(⟨51, []⟩ : Blk)]) H.length (by omega) (by simp) (hG _ (Pfx.refl H).snoc)
    have q2 := apA (H ++ [(⟨51, []⟩ : Blk)] ++ [(⟨51, [.int .i64 u, .int .i64 v]⟩ : Blk)]) H.length (by omega) (by simp) (hG _ (Pfx.refl H).snoc.snoc)
    have q3 := apA (H ++ [(⟨51, [.int .i64 u, .int .i64 v]⟩ : Blk)] ++ [(⟨51, []⟩ : Blk)]) (H.length + 1) (by omega) (by simp) (hG _ (Pfx.refl H).snoc.snoc)
    simp only [if_neg hne, hlen, Nat.add_assoc, Nat.reduceAdd] at q1 q2 q3
    have p1 := apB (H ++ [(⟨51, []⟩ : Blk)] ++ [(⟨51, vints l⟩ : Blk)] ++ [(⟨51, [.int .i64 u, .int .i64 v]⟩ : Blk)]) (H.length + 1) (H.length + 2) (by simp) (by omega) h0 (by simp)
    have p2 := apB (H ++ [(⟨51, []⟩ : Blk)] ++ [(⟨51, [.int .i64 u, .int .i64 v]⟩ : Blk)] ++ [(⟨51, vints l⟩ : Blk)]) (H.length + 2) (H.length + 1) (by simp) (by omega) h0 (by simp)
    have p3 := apB (H ++ [(⟨51, [.int .i64 u, .int .i64 v]⟩ : Blk)] ++ [(⟨51, []⟩ : Blk)] ++ [(⟨51, vints l⟩ : Blk)]) (H.length + 2) H.length (by simp) (by omega) h0 (by simp)
    rw [show (H ++ [(⟨51, []⟩ : Blk)] ++ [(⟨51, vints l⟩ : Blk)] ++ [(⟨51, [.int .i64 u, .int .i64 v]⟩ : Blk)]).set (H.length + 1) (⟨51, []⟩ : Blk) = H ++ [(⟨51, []⟩ : Blk)] ++ [(⟨51, []⟩ : Blk)] ++ [(⟨51, [.int .i64 u, .int .i64 v]⟩ : Blk)] from by simp [List.set_append]] at p1
    rw [show (H ++ [(⟨51, []⟩ : Blk)] ++ [(⟨51, [.int .i64 u, .int .i64 v]⟩ : Blk)] ++ [(⟨51, vints l⟩ : Blk)]).set (H.length + 2) (⟨51, []⟩ : Blk) = H ++ [(⟨51, []⟩ : Blk)] ++ [(⟨51, [.int .i64 u, .int .i64 v]⟩ : Blk)] ++ [(⟨51, []⟩ : Blk)] from by simp [List.set_append]] at p2
    rw [show (H ++ [(⟨51, [.int .i64 u, .int .i64 v]⟩ : Blk)] ++ [(⟨51, []⟩ : Blk)] ++ [(⟨51, vints l⟩ : Blk)]).set (H.length + 2) (⟨51, []⟩ : Blk) = H ++ [(⟨51, [.int .i64 u, .int .i64 v]⟩ : Blk)] ++ [(⟨51, []⟩ : Blk)] ++ [(⟨51, []⟩ : Blk)] from by simp [List.set_append]] at p3
    simp only [hlen, Nat.add_assoc, Nat.reduceAdd] at p1 p2 p3
    refine WG_permW (e2 := (updO (updO (updO (updO (updO (updO (updO e (some 35) (.slice (some ⟨H.length, 0, none⟩) 0 0)) (some 36) (.slice (some ⟨yb, 0, none⟩) n yc)) (some 37) (.slice (some ⟨H.length + 1, 0, none⟩) n (n + 1))) (some 38) (.agg ⟨[.int .i64 u, .int .i64 v]⟩)) (some 39) (.slice (some ⟨H.length + 2, 0, none⟩) 1 1)) (some 40) (.slice (some ⟨H.length + 3, 0, none⟩) (n + 1) (n + 2))) (some 8) (.slice (some ⟨H.length + 3, 0, none⟩) (n + 1) (n + 2)))) (h2 := H ++ [(⟨51, []⟩ : Blk)] ++ [(⟨51, []⟩ : Blk)] ++ [(⟨51, [.int .i64 u, .int .i64 v]⟩ : Blk)] ++ [(⟨51, vints (l ++ [u, v])⟩ : Blk)]) [[0, 1, 2, 3, 4, 5, 6], [0, 1, 3, 2, 4, 5, 6], [0, 1, 3, 4, 2, 5, 6], [0, 3, 1, 2, 4, 5, 6], [0, 3, 1, 4, 2, 5, 6], [0, 3, 4, 1, 2, 5, 6], [1, 0, 2, 3, 4, 5, 6], [1, 0, 3, 2, 4, 5, 6], [1, 0, 3, 4, 2, 5, 6], [1, 3, 0, 2, 4, 5, 6], [1, 3, 0, 4, 2, 5, 6], [1, 3, 4, 0, 2, 5, 6], [3, 0, 1, 2, 4, 5, 6], [3, 0, 1, 4, 2, 5, 6], [3, 0, 4, 1, 2, 5, 6], [3, 1, 0, 2, 4, 5, 6], [3, 1, 0, 4, 2, 5, 6], [3, 1, 4, 0, 2, 5, 6], [3, 4, 0, 1, 2, 5, 6], [3, 4, 1, 0, 2, 5, 6]] (by kernel_rfl) (by kernel_rfl) (by kernel_rfl) ?_ ?_ ?_
    · (repeat' first | simp -dsimp (disch := first | omega | assumption | (refine OkS.sto ?_ (by omega); first | assumption | (refine OkS.sto ?_ (by omega); first | assumption | (refine OkS.sto ?_ (by omega); first | assumption | (refine OkS.sto ?_ (by omega); first | assumption | (refine OkS.sto ?_ (by omega); first | assumption | (refine OkS.sto ?_ (by omega); first | assumption)))))) | exact Pfx.refl _ | (apply Pfx.snoc; repeat (first | exact Pfx.refl _ | assumption | apply Pfx.snoc)) | with_unfolding_all exact of_eq_true (eq_true rfl) | (simp only [List.length_append, List.length_cons, List.length_nil]; omega)) only [↓wpre0, ↓wpre1, ↓reduceIte, Int.reduceToNat, Nat.reduceAdd, Nat.reduceMul, Nat.reduceEqDiff, wpost0, wpost1, wpost2, wpost3, wpost4, ite_self, ite_true, ite_false, if_true, if_false, bin_add, xbls24_0, xbls24_1, bin_lss, bin_mul, xbld51_0, tze51, xst51, un_not, bin_sub, xfad51_0, xst2, xfad51_1, xld51, fr24, wrap_int, wrap_u8, iteP_yes, iteP_no, g4, g7, c0, c1, c2, q1, q2, q3, p1, p2, p3, hlen, Nat.add_assoc, Nat.reduceAdd] | refine iteP_two (fun hc hd => ?_) (fun hc hd => ?_) | refine iteP_intro (fun hc => ?_) (fun hc => ?_))
    · intro σ hσ
      simp only [List.mem_cons, List.not_mem_nil, or_false] at hσ
      rcases hσ with rfl | rfl | rfl | rfl | rfl | rfl | rfl | rfl | rfl | rfl | rfl | rfl | rfl | rfl | rfl | rfl | rfl | rfl | rfl | rfl
      all_goals simp only [opsAt, List.filterMap_cons, List.filterMap_nil, List.getElem?_toArray, List.getElem?_cons_zero, List.getElem?_cons_succ]
      all_goals (repeat' first | simp -dsimp (disch := first | omega | assumption | (refine OkS.sto ?_ (by omega); first | assumption | (refine OkS.sto ?_ (by omega); first | assumption | (refine OkS.sto ?_ (by omega); first | assumption | (refine OkS.sto ?_ (by omega); first | assumption | (refine OkS.sto ?_ (by omega); first | assumption | (refine OkS.sto ?_ (by omega); first | assumption)))))) | exact Pfx.refl _ | (apply Pfx.snoc; repeat (first | exact Pfx.refl _ | assumption | apply Pfx.snoc)) | with_unfolding_all exact of_eq_true (eq_true rfl) | (simp only [List.length_append, List.length_cons, List.length_nil]; omega)) only [↓wpre0, ↓wpre1, ↓reduceIte, Int.reduceToNat, Nat.reduceAdd, Nat.reduceMul, Nat.reduceEqDiff, wpost0, wpost1, wpost2, wpost3, wpost4, ite_self, ite_true, ite_false, if_true, if_false, bin_add, xbls24_0, xbls24_1, bin_lss, bin_mul, xbld51_0, tze51, xst51, un_not, bin_sub, xfad51_0, xst2, xfad51_1, xld51, fr24, wrap_int, wrap_u8, iteP_yes, iteP_no, g4, g7, c0, c1, c2, q1, q2, q3, p1, p2, p3, hlen, Nat.add_assoc, Nat.reduceAdd] | refine iteP_two (fun hc hd => ?_) (fun hc hd => ?_) | refine iteP_intro (fun hc => ?_) (fun hc => ?_))
      all_goals simp only [List.append_assoc, List.cons_append, List.nil_append]
      all_goals first
        | exact equ_go (T := 51) 4 [0, 1, 2, 3] [0, 1, 2, 3] [[], [], [u, v], l ++ [u, v]] [[], [], [u, v], l ++ [u, v]] hro rfl rfl rfl rfl (by decide) (by decide) rfl (fun t n1 n2 n3 n4 n5 n6 n7 => by simp only [updO_some, upd_at, n1, n2, n3, n4, n5, n6, n7, ↓reduceIte, and_self]) (ren_new H _ 0 0 _ _ _ rfl) (ren_old H _ _ _ _ _ hlY) (ren_new H _ 1 1 _ _ _ rfl) (.agg _ _ (Rens.ints [u, v])) (ren_new H _ 2 2 _ _ _ rfl) (ren_new H _ 3 3 _ _ _ rfl) (ren_new H _ 3 3 _ _ _ rfl)
        | exact equ_go (T := 51) 4 [0, 2, 1, 3] [0, 2, 1, 3] [[], [u, v], [], l ++ [u, v]] [[], [], [u, v], l ++ [u, v]] hro rfl rfl rfl rfl (by decide) (by decide) rfl (fun t n1 n2 n3 n4 n5 n6 n7 => by simp only [updO_some, upd_at, n1, n2, n3, n4, n5, n6, n7, ↓reduceIte, and_self]) (ren_new H _ 0 0 _ _ _ rfl) (ren_old H _ _ _ _ _ hlY) (ren_new H _ 2 1 _ _ _ rfl) (.agg _ _ (Rens.ints [u, v])) (ren_new H _ 1 2 _ _ _ rfl) (ren_new H _ 3 3 _ _ _ rfl) (ren_new H _ 3 3 _ _ _ rfl)
        | exact equ_go (T := 51) 4 [2, 0, 1, 3] [1, 2, 0, 3] [[u, v], [], [], l ++ [u, v]] [[], [], [u, v], l ++ [u, v]] hro rfl rfl rfl rfl (by decide) (by decide) rfl (fun t n1 n2 n3 n4 n5 n6 n7 => by simp only [updO_some, upd_at, n1, n2, n3, n4, n5, n6, n7, ↓reduceIte, and_self]) (ren_new H _ 1 0 _ _ _ rfl) (ren_old H _ _ _ _ _ hlY) (ren_new H _ 2 1 _ _ _ rfl) (.agg _ _ (Rens.ints [u, v])) (ren_new H _ 0 2 _ _ _ rfl) (ren_new H _ 3 3 _ _ _ rfl) (ren_new H _ 3 3 _ _ _ rfl)
    · refine k _ _ (H.length + 3) (n + 2) (fun t h1 h2 => ?_) rfl (by omega) ?_ ?_
      · simp only [updO_some, upd_at, h2, show t ≠ 35 by omega, show t ≠ 36 by omega, show t ≠ 37 by omega, show t ≠ 38 by omega, show t ≠ 39 by omega, show t ≠ 40 by omega, ↓reduceIte]
      · exact get_last (by simp)
      · exact (Pfx.refl H).snoc.snoc.snoc.snoc
end Go.Proofs.Ytkhipobafchilaa.Sim

/- Valid places, drawn. Lemmas only; no condition. -/
set_option linter.unusedSimpArgs false
set_option linter.unusedVariables false
set_option maxRecDepth 8000
namespace Go.Proofs.Ytkhipobafchilaa.Sim
open Go Go.RowKit
variable {ro lo hi b A : Nat} {X : Ext} {h : Heap} {x y : Value} {cd : List UInt8}
/-- What drawn places are. -/
def RPl (lo hi b A : Nat) (x : Value) (cd : List UInt8) (h : Heap) (q : Value × Heap) : Prop :=
  ∃ (n yb yc : Nat) (l : List Int), q.1 = .slice (some ⟨yb, 0, none⟩) n yc ∧ h.length ≤ yb ∧ q.2[yb]? = some ⟨51, vints l⟩ ∧ l.length = n * 2 ∧ goodP n l ∧ (∀ j, -512 ≤ nth l j ∧ nth l j ≤ 512) ∧ Dst b h q.2 ∧ SRC lo hi b (A + 100) x cd q.2
theorem is_blk {H : Heap} {db dc n : Nat} {t : TypeId} {l : List Int} (hb : H[db]? = some ⟨t, vints l⟩) (hl : l.length = n * 2) : IS db (db + 1) 2 H (.slice (some ⟨db, 0, none⟩) n dc) n l :=
  ⟨hl, .inr ⟨db, 0, dc, _, rfl, Nat.le_refl _, Nat.lt_succ_self _, hb, by show 0 + n * 2 ≤ (vints l).length; simp [vints, hl], fun j hj => by rw [Nat.zero_add]; simp only [vints, List.getElem?_map, nth, List.getD_eq_getElem?_getD]; rw [List.getElem?_eq_getElem (by omega)]; rfl⟩⟩
theorem nth_two {l : List Int} {u v : Int} (hl : ∀ j, -512 ≤ nth l j ∧ nth l j ≤ 512) (hu : -512 ≤ u ∧ u ≤ 512) (hv : -512 ≤ v ∧ v ≤ 512) (j : Nat) : -512 ≤ nth (l ++ [u, v]) j ∧ nth (l ++ [u, v]) j ≤ 512 := by
  rcases Nat.lt_or_ge j l.length with q | q
  · have : nth (l ++ [u, v]) j = nth l j := by simp only [nth, List.getD_eq_getElem?_getD, List.getElem?_append_left q]
    rw [this]; exact hl j
  · have : nth (l ++ [u, v]) j = nth [u, v] (j - l.length) := by simp only [nth, List.getD_eq_getElem?_getD, List.getElem?_append_right q]
    rw [this]
    generalize j - l.length = m
    rcases m with _ | _ | m
    · exact hu
    · exact hv
    · simp [nth]
theorem good_one {u v : Int} (hu : -512 ≤ u ∧ u ≤ 512) (hv : -512 ≤ v ∧ v ≤ 512) : goodP 1 [u, v] := by
  refine ⟨by omega, by omega, fun i hi => ?_, fun i k hi hk => by omega⟩
  have : i = 0 := by omega
  subst this
  simp [plB, cdB, nth]
  omega
set_option maxHeartbeats 4000000 in
theorem l02Ok_w (hW : XDW X) (hX : XN X) {c : Code} (hc : Try.f24.body = some c) (hS : SRC lo hi b A x cd h) (hro : ro ≤ b) (hq : hi ≤ b) (hA : A ≤ 1152921504600000000) (hl : cd.length ≤ 1099511627776) :
    WG Try.prog ro X c (EndP Try.prog Try.f24 h fun r h' => RPl lo hi b A x cd h (r, h')) (entry [.pointer (some ⟨b, 0, none⟩)]) h := by
  cases hc
  have hbl := hS.lt
  (repeat' first | simp -dsimp (disch := first | omega | assumption | (refine OkS.sto ?_ (by omega); first | assumption | (refine OkS.sto ?_ (by omega); first | assumption | (refine OkS.sto ?_ (by omega); first | assumption | (refine OkS.sto ?_ (by omega); first | assumption | (refine OkS.sto ?_ (by omega); first | assumption | (refine OkS.sto ?_ (by omega); first | assumption)))))) | exact Pfx.refl _ | (apply Pfx.snoc; repeat (first | exact Pfx.refl _ | assumption | apply Pfx.snoc)) | with_unfolding_all exact of_eq_true (eq_true rfl) | (simp only [List.length_append, List.length_cons, List.length_nil]; omega)) only [↓gpre0, ↓wpre1, ↓reduceIte, Int.reduceToNat, Nat.reduceAdd, Nat.reduceMul, Nat.reduceEqDiff, wpost0, wpost1, wpost2, wpost3, wpost4, ite_self, ite_true, ite_false, if_true, if_false, bin_add, xbls24_0, xbls24_1, bin_lss, bin_mul, xbld51_0, tze51, xst51, un_not, bin_sub, xfad51_0, xst2, xfad51_1, xld51, fr24, wrap_int, wrap_u8, iteP_yes, iteP_no] | refine iteP_two (fun hc hd => ?_) (fun hc hd => ?_) | refine iteP_intro (fun hc => ?_) (fun hc => ?_))
  refine cf_rel (pick_c hW.next hW.pick (n := 5) hS hro hq (by omega) hl (by omega)) (fun q => by cases q) ?_
  rintro r H1 ⟨v, rfl, _, hv, S1, o1⟩
  have hv5 := hv (by omega)
  have l1 := o1.1
  (repeat' first | simp -dsimp (disch := first | omega | assumption | (refine OkS.sto ?_ (by omega); first | assumption | (refine OkS.sto ?_ (by omega); first | assumption | (refine OkS.sto ?_ (by omega); first | assumption | (refine OkS.sto ?_ (by omega); first | assumption | (refine OkS.sto ?_ (by omega); first | assumption | (refine OkS.sto ?_ (by omega); first | assumption)))))) | exact Pfx.refl _ | (apply Pfx.snoc; repeat (first | exact Pfx.refl _ | assumption | apply Pfx.snoc)) | with_unfolding_all exact of_eq_true (eq_true rfl) | (simp only [List.length_append, List.length_cons, List.length_nil]; omega)) only [↓gpre0, ↓wpre1, ↓reduceIte, Int.reduceToNat, Nat.reduceAdd, Nat.reduceMul, Nat.reduceEqDiff, wpost0, wpost1, wpost2, wpost3, wpost4, ite_self, ite_true, ite_false, if_true, if_false, bin_add, xbls24_0, xbls24_1, bin_lss, bin_mul, xbld51_0, tze51, xst51, un_not, bin_sub, xfad51_0, xst2, xfad51_1, xld51, fr24, wrap_int, wrap_u8, iteP_yes, iteP_no] | refine iteP_two (fun hc hd => ?_) (fun hc hd => ?_) | refine iteP_intro (fun hc => ?_) (fun hc => ?_))
  refine cf_rel (one_c hW.next hW.pick hW.one (n := 24) S1 hro hq (by omega) hl (by omega)) (fun q => by cases q) ?_
  rintro r H2 ⟨v2, rfl, S2, o2⟩
  have l2 := o2.1
  have o12 := Only.trans' o1 o2
  have l12 : H2.length = h.length := by omega
  obtain ⟨H3, hH3⟩ : ∃ H3, H3 = H2 ++ [(⟨51, []⟩ : Blk)] := ⟨_, rfl⟩
  have S3 : SRC lo hi b (A + 4) x cd H3 := by rw [hH3]; exact S2.pre (Pfx.refl _).snoc
  have d3 : Dst b h H3 := by rw [hH3]; exact o12.dst.trans (Pfx.refl H2).snoc.dst
  have D3 : H3[h.length]? = some ⟨51, []⟩ := by rw [hH3, ← l12]; exact get_last rfl
  have l3 : H3.length = h.length + 1 := by rw [hH3]; simp [l12]
  cases v2
  all_goals
    (repeat' first | simp -dsimp (disch := first | omega | assumption | (refine OkS.sto ?_ (by omega); first | assumption | (refine OkS.sto ?_ (by omega); first | assumption | (refine OkS.sto ?_ (by omega); first | assumption | (refine OkS.sto ?_ (by omega); first | assumption | (refine OkS.sto ?_ (by omega); first | assumption | (refine OkS.sto ?_ (by omega); first | assumption)))))) | exact Pfx.refl _ | (apply Pfx.snoc; repeat (first | exact Pfx.refl _ | assumption | apply Pfx.snoc)) | with_unfolding_all exact of_eq_true (eq_true rfl) | (simp only [List.length_append, List.length_cons, List.length_nil]; omega)) only [↓gpre0, ↓wpre1, ↓reduceIte, Int.reduceToNat, Nat.reduceAdd, Nat.reduceMul, Nat.reduceEqDiff, wpost0, wpost1, wpost2, wpost3, wpost4, ite_self, ite_true, ite_false, if_true, if_false, bin_add, xbls24_0, xbls24_1, bin_lss, bin_mul, xbld51_0, tze51, xst51, un_not, bin_sub, xfad51_0, xst2, xfad51_1, xld51, fr24, wrap_int, wrap_u8, iteP_yes, iteP_no] | refine iteP_two (fun hc hd => ?_) (fun hc hd => ?_) | refine iteP_intro (fun hc => ?_) (fun hc => ?_))
    rw [← hH3, l12]
    refine cf_rel (one_c hW.next hW.pick hW.one (n := 2) S3 hro hq (by omega) hl (by omega)) (fun q => by cases q) ?_
    rintro r H4 ⟨ln, rfl, S4, o4⟩
    have l4 := o4.1
    have d4 := d3.trans o4.dst
    have D4 := (o4.2 h.length (by omega)).trans D3
    (repeat' first | simp -dsimp (disch := first | omega | assumption | (refine OkS.sto ?_ (by omega); first | assumption | (refine OkS.sto ?_ (by omega); first | assumption | (refine OkS.sto ?_ (by omega); first | assumption | (refine OkS.sto ?_ (by omega); first | assumption | (refine OkS.sto ?_ (by omega); first | assumption | (refine OkS.sto ?_ (by omega); first | assumption)))))) | exact Pfx.refl _ | (apply Pfx.snoc; repeat (first | exact Pfx.refl _ | assumption | apply Pfx.snoc)) | with_unfolding_all exact of_eq_true (eq_true rfl) | (simp only [List.length_append, List.length_cons, List.length_nil]; omega)) only [↓gpre0, ↓wpre1, ↓reduceIte, Int.reduceToNat, Nat.reduceAdd, Nat.reduceMul, Nat.reduceEqDiff, wpost0, wpost1, wpost2, wpost3, wpost4, ite_self, ite_true, ite_false, if_true, if_false, bin_add, xbls24_0, xbls24_1, bin_lss, bin_mul, xbld51_0, tze51, xst51, un_not, bin_sub, xfad51_0, xst2, xfad51_1, xld51, fr24, wrap_int, wrap_u8, iteP_yes, iteP_no] | refine iteP_two (fun hc hd => ?_) (fun hc hd => ?_) | refine iteP_intro (fun hc => ?_) (fun hc => ?_))
    refine WG_rounds (fun mm e h' => ∃ (N i n yb yc : Nat) (l : List Int), mm = 16 - i ∧ i ≤ N ∧ 1 ≤ N ∧ N ≤ 16 ∧ e 0 = .pointer (some ⟨b, 0, none⟩) ∧ e 3 = .int .i64 N ∧ e 4 = .slice (some ⟨yb, 0, none⟩) n yc ∧ e 5 = .bool ln ∧ e 6 = .int .i64 i ∧ h.length ≤ yb ∧ h'[yb]? = some ⟨51, vints l⟩ ∧ l.length = n * 2 ∧ n ≤ 16 ∧ (0 < n → goodP n l) ∧ (0 < i → 0 < n) ∧ (i = 0 → n = 0) ∧ (∀ j, -512 ≤ nth l j ∧ nth l j ≤ 512) ∧ SRC lo hi b (A + 6 + 4 * i) x cd h' ∧ Dst b h h' ∧ yb < h'.length) ?_ 16 _ _ ?_
    · rintro mm e h' ⟨N, i, n, yb, yc, l, hmm, hle, hN1, hN16, g0, g3, g4, g5, g6, hyb, hD, hll, hn16, hgood, hpos, hzero, hrng, S5, d5, hlt⟩
      have hks : (i : Int) + 1 = ((i + 1 : Nat) : Int) := by omega
      have l5 := d5.1
      by_cases hin : i < N
      · have hin' : (i : Int) < (N : Int) := by omega
        have hw : IntKind.i64.wrap (32 * (i : Int)) = 32 * (i : Int) := wrap_int (by omega) (by omega)
        cases ln with
        | true =>
          (repeat' first | simp -dsimp (disch := first | omega | assumption | (refine OkS.sto ?_ (by omega); first | assumption | (refine OkS.sto ?_ (by omega); first | assumption | (refine OkS.sto ?_ (by omega); first | assumption | (refine OkS.sto ?_ (by omega); first | assumption | (refine OkS.sto ?_ (by omega); first | assumption | (refine OkS.sto ?_ (by omega); first | assumption)))))) | exact Pfx.refl _ | (apply Pfx.snoc; repeat (first | exact Pfx.refl _ | assumption | apply Pfx.snoc)) | with_unfolding_all exact of_eq_true (eq_true rfl) | (simp only [List.length_append, List.length_cons, List.length_nil]; omega)) only [↓gpre0, ↓wpre1, ↓reduceIte, Int.reduceToNat, Nat.reduceAdd, Nat.reduceMul, Nat.reduceEqDiff, wpost0, wpost1, wpost2, wpost3, wpost4, ite_self, ite_true, ite_false, if_true, if_false, bin_add, xbls24_0, xbls24_1, bin_lss, bin_mul, xbld51_0, tze51, xst51, un_not, bin_sub, xfad51_0, xst2, xfad51_1, xld51, fr24, wrap_int, wrap_u8, iteP_yes, iteP_no, g0, g3, g4, g5, g6, hin', hw] | refine iteP_two (fun hc hd => ?_) (fun hc hd => ?_) | refine iteP_intro (fun hc => ?_) (fun hc => ?_))
          have pH := (Pfx.refl h').snoc (C := (⟨51, [.int .i64 (32 * (i : Int)), .int .i64 0]⟩ : Blk))
          have S6 := S5.pre pH
          refine r13 (c := _) rfl (by kernel_rfl) (yb := yb) (yc := yc) (n := n) (bp := h'.length) (l := l) (u := 32 * (i : Int)) (v := 0) (by simp; have := S5.lt; omega) (by simp only [updO_some, updO_none, upd_at, Nat.reduceEqDiff, ↓reduceIte]; exact g4) (by simp only [updO_some, updO_none, upd_at, Nat.reduceEqDiff, ↓reduceIte]) ((pH.get hlt).trans hD) hll (get_last rfl) hn16 ?_
          intro e2 G db dc h35 h8 hdb hDb hp
          have k0 : e2 0 = .pointer (some ⟨b, 0, none⟩) := (h35 0 (by omega) (by omega)).trans (by simp only [updO_some, updO_none, upd_at, Nat.reduceEqDiff, ↓reduceIte]; exact g0)
          have k3 : e2 3 = .int .i64 N := (h35 3 (by omega) (by omega)).trans (by simp only [updO_some, updO_none, upd_at, Nat.reduceEqDiff, ↓reduceIte]; exact g3)
          have k4 : e2 4 = .slice (some ⟨yb, 0, none⟩) n yc := (h35 4 (by omega) (by omega)).trans (by simp only [updO_some, updO_none, upd_at, Nat.reduceEqDiff, ↓reduceIte]; exact g4)
          have k5 : e2 5 = .bool true := (h35 5 (by omega) (by omega)).trans (by simp only [updO_some, updO_none, upd_at, Nat.reduceEqDiff, ↓reduceIte]; exact g5)
          have k6 : e2 6 = .int .i64 i := (h35 6 (by omega) (by omega)).trans (by simp only [updO_some, updO_none, upd_at, Nat.reduceEqDiff, ↓reduceIte]; exact g6)
          clear h35
          have hls : (l ++ [32 * (i : Int), 0]).length = (n + 1) * 2 := by simp [hll]; omega
          have isb := is_blk (dc := dc) hDb hls
          have lgG := hp.len
          have hdb2 := Nat.le_trans (d5.trans pH.dst).1 hdb
          have hyl := Nat.lt_of_lt_of_le (Nat.lt_of_lt_of_le hlt pH.len) lgG
          (repeat' first | simp -dsimp (disch := first | omega | assumption | (refine OkS.sto ?_ (by omega); first | assumption | (refine OkS.sto ?_ (by omega); first | assumption | (refine OkS.sto ?_ (by omega); first | assumption | (refine OkS.sto ?_ (by omega); first | assumption | (refine OkS.sto ?_ (by omega); first | assumption | (refine OkS.sto ?_ (by omega); first | assumption)))))) | exact Pfx.refl _ | (apply Pfx.snoc; repeat (first | exact Pfx.refl _ | assumption | apply Pfx.snoc)) | with_unfolding_all exact of_eq_true (eq_true rfl) | (simp only [List.length_append, List.length_cons, List.length_nil]; omega)) only [↓gpre0, ↓wpre1, ↓reduceIte, Int.reduceToNat, Nat.reduceAdd, Nat.reduceMul, Nat.reduceEqDiff, wpost0, wpost1, wpost2, wpost3, wpost4, ite_self, ite_true, ite_false, if_true, if_false, bin_add, xbls24_0, xbls24_1, bin_lss, bin_mul, xbld51_0, tze51, xst51, un_not, bin_sub, xfad51_0, xst2, xfad51_1, xld51, fr24, wrap_int, wrap_u8, iteP_yes, iteP_no, k0, k3, k4, k5, k6, h8] | refine iteP_two (fun hc hd => ?_) (fun hc hd => ?_) | refine iteP_intro (fun hc => ?_) (fun hc => ?_))
          refine cf_rel (l02Is_c hX isb (by omega)) (fun q => by cases q) ?_
          rintro r G2 ⟨bb, rfl, rfl, hg⟩
          have hu := (show (-512 : Int) ≤ 32 * (i : Int) ∧ 32 * (i : Int) ≤ 512 by omega)
          have hv := (show (-512 : Int) ≤ 0 ∧ (0 : Int) ≤ 512 by omega)
          have dG := (d5.trans pH.dst).trans hp.dst
          cases bb with
          | true =>
            have gd := hg.1 rfl
            (repeat' first | simp -dsimp (disch := first | omega | assumption | (refine OkS.sto ?_ (by omega); first | assumption | (refine OkS.sto ?_ (by omega); first | assumption | (refine OkS.sto ?_ (by omega); first | assumption | (refine OkS.sto ?_ (by omega); first | assumption | (refine OkS.sto ?_ (by omega); first | assumption | (refine OkS.sto ?_ (by omega); first | assumption)))))) | exact Pfx.refl _ | (apply Pfx.snoc; repeat (first | exact Pfx.refl _ | assumption | apply Pfx.snoc)) | with_unfolding_all exact of_eq_true (eq_true rfl) | (simp only [List.length_append, List.length_cons, List.length_nil]; omega)) only [↓gpre0, ↓wpre1, ↓reduceIte, Int.reduceToNat, Nat.reduceAdd, Nat.reduceMul, Nat.reduceEqDiff, wpost0, wpost1, wpost2, wpost3, wpost4, ite_self, ite_true, ite_false, if_true, if_false, bin_add, xbls24_0, xbls24_1, bin_lss, bin_mul, xbld51_0, tze51, xst51, un_not, bin_sub, xfad51_0, xst2, xfad51_1, xld51, fr24, wrap_int, wrap_u8, iteP_yes, iteP_no, k0, k3, k4, k5, k6, h8] | refine iteP_two (fun hc hd => ?_) (fun hc hd => ?_) | refine iteP_intro (fun hc => ?_) (fun hc => ?_))
            have hks2 : IntKind.i64.wrap ((i : Int) + 1) = ((i + 1 : Nat) : Int) := (wrap_int (by omega) (by omega)).trans hks
            refine ⟨16 - (i + 1), by omega, N, i + 1, n + 1, db, dc, l ++ [32 * (i : Int), 0], rfl, by omega, hN1, hN16, ?_⟩
            (repeat' (first | assumption | rfl | omega | (exact hks2) | (rw [hks]) | (exact hDb) | (exact hls) | (exact gd.n16) | (exact fun _ => gd) | (exact fun _ => by omega) | (exact fun j => nth_two hrng hu hv j) | (exact (S6.pre hp).more (by omega)) | (exact dG) | (exact (List.getElem?_eq_some_iff.1 hDb).1) | refine And.intro ?_ ?_))
          | false =>
            have hn0 : 0 < n := by
              rcases Nat.eq_zero_or_pos n with z | z
              · subst z
                have : l = [] := List.length_eq_zero_iff.1 (by omega)
                subst this
                exact absurd (hg.2 (good_one hu hv)) (by simp)
              · exact z
            (repeat' first | simp -dsimp (disch := first | omega | assumption | (refine OkS.sto ?_ (by omega); first | assumption | (refine OkS.sto ?_ (by omega); first | assumption | (refine OkS.sto ?_ (by omega); first | assumption | (refine OkS.sto ?_ (by omega); first | assumption | (refine OkS.sto ?_ (by omega); first | assumption | (refine OkS.sto ?_ (by omega); first | assumption)))))) | exact Pfx.refl _ | (apply Pfx.snoc; repeat (first | exact Pfx.refl _ | assumption | apply Pfx.snoc)) | with_unfolding_all exact of_eq_true (eq_true rfl) | (simp only [List.length_append, List.length_cons, List.length_nil]; omega)) only [↓gpre0, ↓wpre1, ↓reduceIte, Int.reduceToNat, Nat.reduceAdd, Nat.reduceMul, Nat.reduceEqDiff, wpost0, wpost1, wpost2, wpost3, wpost4, ite_self, ite_true, ite_false, if_true, if_false, bin_add, xbls24_0, xbls24_1, bin_lss, bin_mul, xbld51_0, tze51, xst51, un_not, bin_sub, xfad51_0, xst2, xfad51_1, xld51, fr24, wrap_int, wrap_u8, iteP_yes, iteP_no, k0, k3, k4, k5, k6, h8] | refine iteP_two (fun hc hd => ?_) (fun hc hd => ?_) | refine iteP_intro (fun hc => ?_) (fun hc => ?_))
            have hks2 : IntKind.i64.wrap ((i : Int) + 1) = ((i + 1 : Nat) : Int) := (wrap_int (by omega) (by omega)).trans hks
            refine ⟨16 - (i + 1), by omega, N, i + 1, n, yb, yc, l, rfl, by omega, hN1, hN16, ?_⟩
            (repeat' (first | assumption | rfl | omega | (exact hks2) | (rw [hks]) | (exact (hp.get (Nat.lt_of_lt_of_le hlt pH.len)).trans ((pH.get hlt).trans hD)) | (exact hll) | (exact hn16) | (exact hgood) | (exact fun _ => hn0) | (exact hrng) | (exact (S6.pre hp).more (by omega)) | (exact dG) | refine And.intro ?_ ?_))
        | false =>
          have pH := (Pfx.refl h').snoc (C := (⟨51, [.int .i64 (32 * (i : Int)), .int .i64 0]⟩ : Blk))
          have S6 := S5.pre pH
          (repeat' first | simp -dsimp (disch := first | omega | assumption | (refine OkS.sto ?_ (by omega); first | assumption | (refine OkS.sto ?_ (by omega); first | assumption | (refine OkS.sto ?_ (by omega); first | assumption | (refine OkS.sto ?_ (by omega); first | assumption | (refine OkS.sto ?_ (by omega); first | assumption | (refine OkS.sto ?_ (by omega); first | assumption)))))) | exact Pfx.refl _ | (apply Pfx.snoc; repeat (first | exact Pfx.refl _ | assumption | apply Pfx.snoc)) | with_unfolding_all exact of_eq_true (eq_true rfl) | (simp only [List.length_append, List.length_cons, List.length_nil]; omega)) only [↓gpre0, ↓wpre1, ↓reduceIte, Int.reduceToNat, Nat.reduceAdd, Nat.reduceMul, Nat.reduceEqDiff, wpost0, wpost1, wpost2, wpost3, wpost4, ite_self, ite_true, ite_false, if_true, if_false, bin_add, xbls24_0, xbls24_1, bin_lss, bin_mul, xbld51_0, tze51, xst51, un_not, bin_sub, xfad51_0, xst2, xfad51_1, xld51, fr24, wrap_int, wrap_u8, iteP_yes, iteP_no, g0, g3, g4, g5, g6, hin', hw] | refine iteP_two (fun hc hd => ?_) (fun hc hd => ?_) | refine iteP_intro (fun hc => ?_) (fun hc => ?_))
          refine cf_rel (pick_c hW.next hW.pick (n := 257) S6 hro hq (by omega) hl (by omega)) (fun q => by cases q) ?_
          rintro r G1 ⟨v3, rfl, _, hv3, S7, o3⟩
          have hv3' := hv3 (by omega)
          have m1 := o3.1
          simp only [List.length_append, List.length_cons, List.length_nil, Nat.zero_add] at m1
          have P1 := (o3.2 h'.length (by omega)).trans (get_last (h := h') (C := (⟨51, [.int .i64 (32 * (i : Int)), .int .i64 0]⟩ : Blk)) rfl)
          have w1 : IntKind.i64.wrap ((v3 : Int) - 128) = (v3 : Int) - 128 := wrap_int (by omega) (by omega)
          have u1 : put ro G1 h'.length 0 1 (.int .i64 ((v3 : Int) - 128)) = some (G1.set h'.length ⟨51, [.int .i64 ((v3 : Int) - 128), .int .i64 0]⟩) := putb (n := 1) (o := 0) P1 (by omega) rfl (by simp) (by simp [cellsOf, one, Value.oneCell'])
          obtain ⟨G2, hG2⟩ : ∃ G2, G2 = G1.set h'.length (⟨51, [.int .i64 ((v3 : Int) - 128), .int .i64 0]⟩ : Blk) := ⟨_, rfl⟩
          rw [← hG2] at u1
          have m2 : G2.length = h'.length + 1 := by rw [hG2, List.length_set, m1]
          have f2 : ∀ j, j ≠ h'.length → G2[j]? = G1[j]? := fun j hj => by rw [hG2, List.getElem?_set_ne (fun q => hj q.symm)]
          have P2 : G2[h'.length]? = some (⟨51, [.int .i64 ((v3 : Int) - 128), .int .i64 0]⟩ : Blk) := by rw [hG2, List.getElem?_set_self (by omega)]
          have S8 : SRC lo hi b (A + 6 + 4 * i + 2) x cd G2 := S7.frame (f2 b (by omega)) fun j _ hj => f2 j (by omega)
          (repeat' first | simp -dsimp (disch := first | omega | assumption | (refine OkS.sto ?_ (by omega); first | assumption | (refine OkS.sto ?_ (by omega); first | assumption | (refine OkS.sto ?_ (by omega); first | assumption | (refine OkS.sto ?_ (by omega); first | assumption | (refine OkS.sto ?_ (by omega); first | assumption | (refine OkS.sto ?_ (by omega); first | assumption)))))) | exact Pfx.refl _ | (apply Pfx.snoc; repeat (first | exact Pfx.refl _ | assumption | apply Pfx.snoc)) | with_unfolding_all exact of_eq_true (eq_true rfl) | (simp only [List.length_append, List.length_cons, List.length_nil]; omega)) only [↓gpre0, ↓wpre1, ↓reduceIte, Int.reduceToNat, Nat.reduceAdd, Nat.reduceMul, Nat.reduceEqDiff, wpost0, wpost1, wpost2, wpost3, wpost4, ite_self, ite_true, ite_false, if_true, if_false, bin_add, xbls24_0, xbls24_1, bin_lss, bin_mul, xbld51_0, tze51, xst51, un_not, bin_sub, xfad51_0, xst2, xfad51_1, xld51, fr24, wrap_int, wrap_u8, iteP_yes, iteP_no, g0, g3, g4, g5, g6, w1, u1] | refine iteP_two (fun hc hd => ?_) (fun hc hd => ?_) | refine iteP_intro (fun hc => ?_) (fun hc => ?_))
          refine cf_rel (pick_c hW.next hW.pick (n := 257) S8 hro hq (by omega) hl (by omega)) (fun q => by cases q) ?_
          rintro r G3 ⟨v4, rfl, _, hv4, S9, o4'⟩
          have hv4' := hv4 (by omega)
          have m3 := o4'.1
          have P3 := (o4'.2 h'.length (by omega)).trans P2
          have w2 : IntKind.i64.wrap ((v4 : Int) - 128) = (v4 : Int) - 128 := wrap_int (by omega) (by omega)
          have u2 : put ro G3 h'.length 1 1 (.int .i64 ((v4 : Int) - 128)) = some (G3.set h'.length ⟨51, [.int .i64 ((v3 : Int) - 128), .int .i64 ((v4 : Int) - 128)]⟩) := putb (n := 1) (o := 1) P3 (by omega) rfl (by simp) (by simp [cellsOf, one, Value.oneCell'])
          obtain ⟨G4, hG4⟩ : ∃ G4, G4 = G3.set h'.length (⟨51, [.int .i64 ((v3 : Int) - 128), .int .i64 ((v4 : Int) - 128)]⟩ : Blk) := ⟨_, rfl⟩
          rw [← hG4] at u2
          have m4 : G4.length = h'.length + 1 := by rw [hG4, List.length_set]; omega
          have f4 : ∀ j, j ≠ h'.length → G4[j]? = G3[j]? := fun j hj => by rw [hG4, List.getElem?_set_ne (fun q => hj q.symm)]
          have P4 : G4[h'.length]? = some (⟨51, [.int .i64 ((v3 : Int) - 128), .int .i64 ((v4 : Int) - 128)]⟩ : Blk) := by rw [hG4, List.getElem?_set_self (by omega)]
          have SA : SRC lo hi b (A + 6 + 4 * i + 4) x cd G4 := S9.frame (f4 b (by omega)) fun j _ hj => f4 j (by omega)
          have fA : ∀ j, j < h'.length → j ≠ b → G4[j]? = h'[j]? := fun j h1 h2 => (f4 j (by omega)).trans ((o4'.2 j h2).trans ((f2 j (by omega)).trans ((o3.2 j h2).trans (pH.get h1))))
          have dA : Dst b h G4 := d5.trans ⟨by omega, fA⟩
          have D4' : G4[yb]? = some (⟨51, vints l⟩ : Blk) := (fA yb hlt (by omega)).trans hD
          (repeat' first | simp -dsimp (disch := first | omega | assumption | (refine OkS.sto ?_ (by omega); first | assumption | (refine OkS.sto ?_ (by omega); first | assumption | (refine OkS.sto ?_ (by omega); first | assumption | (refine OkS.sto ?_ (by omega); first | assumption | (refine OkS.sto ?_ (by omega); first | assumption | (refine OkS.sto ?_ (by omega); first | assumption)))))) | exact Pfx.refl _ | (apply Pfx.snoc; repeat (first | exact Pfx.refl _ | assumption | apply Pfx.snoc)) | with_unfolding_all exact of_eq_true (eq_true rfl) | (simp only [List.length_append, List.length_cons, List.length_nil]; omega)) only [↓gpre0, ↓wpre1, ↓reduceIte, Int.reduceToNat, Nat.reduceAdd, Nat.reduceMul, Nat.reduceEqDiff, wpost0, wpost1, wpost2, wpost3, wpost4, ite_self, ite_true, ite_false, if_true, if_false, bin_add, xbls24_0, xbls24_1, bin_lss, bin_mul, xbld51_0, tze51, xst51, un_not, bin_sub, xfad51_0, xst2, xfad51_1, xld51, fr24, wrap_int, wrap_u8, iteP_yes, iteP_no, g0, g3, g4, g5, g6, w2, u2] | refine iteP_two (fun hc hd => ?_) (fun hc hd => ?_) | refine iteP_intro (fun hc => ?_) (fun hc => ?_))
          refine r13 (c := _) rfl (by kernel_rfl) (yb := yb) (yc := yc) (n := n) (bp := h'.length) (l := l) (u := ((v3 : Int) - 128)) (v := ((v4 : Int) - 128)) (by rw [m4]; omega) (by simp only [updO_some, updO_none, upd_at, Nat.reduceEqDiff, ↓reduceIte]; exact g4) (by simp only [updO_some, updO_none, upd_at, Nat.reduceEqDiff, ↓reduceIte]) D4' hll P4 hn16 ?_
          intro e2 G db dc h35 h8 hdb hDb hp
          have k0 : e2 0 = .pointer (some ⟨b, 0, none⟩) := (h35 0 (by omega) (by omega)).trans (by simp only [updO_some, updO_none, upd_at, Nat.reduceEqDiff, ↓reduceIte]; exact g0)
          have k3 : e2 3 = .int .i64 N := (h35 3 (by omega) (by omega)).trans (by simp only [updO_some, updO_none, upd_at, Nat.reduceEqDiff, ↓reduceIte]; exact g3)
          have k4 : e2 4 = .slice (some ⟨yb, 0, none⟩) n yc := (h35 4 (by omega) (by omega)).trans (by simp only [updO_some, updO_none, upd_at, Nat.reduceEqDiff, ↓reduceIte]; exact g4)
          have k5 : e2 5 = .bool false := (h35 5 (by omega) (by omega)).trans (by simp only [updO_some, updO_none, upd_at, Nat.reduceEqDiff, ↓reduceIte]; exact g5)
          have k6 : e2 6 = .int .i64 i := (h35 6 (by omega) (by omega)).trans (by simp only [updO_some, updO_none, upd_at, Nat.reduceEqDiff, ↓reduceIte]; exact g6)
          clear h35
          have hls : (l ++ [((v3 : Int) - 128), ((v4 : Int) - 128)]).length = (n + 1) * 2 := by simp [hll]; omega
          have isb := is_blk (dc := dc) hDb hls
          have lgG := hp.len
          have hdb2 := Nat.le_trans (dA).1 hdb
          have hyl := Nat.lt_of_lt_of_le (show yb < G4.length by omega) lgG
          (repeat' first | simp -dsimp (disch := first | omega | assumption | (refine OkS.sto ?_ (by omega); first | assumption | (refine OkS.sto ?_ (by omega); first | assumption | (refine OkS.sto ?_ (by omega); first | assumption | (refine OkS.sto ?_ (by omega); first | assumption | (refine OkS.sto ?_ (by omega); first | assumption | (refine OkS.sto ?_ (by omega); first | assumption)))))) | exact Pfx.refl _ | (apply Pfx.snoc; repeat (first | exact Pfx.refl _ | assumption | apply Pfx.snoc)) | with_unfolding_all exact of_eq_true (eq_true rfl) | (simp only [List.length_append, List.length_cons, List.length_nil]; omega)) only [↓gpre0, ↓wpre1, ↓reduceIte, Int.reduceToNat, Nat.reduceAdd, Nat.reduceMul, Nat.reduceEqDiff, wpost0, wpost1, wpost2, wpost3, wpost4, ite_self, ite_true, ite_false, if_true, if_false, bin_add, xbls24_0, xbls24_1, bin_lss, bin_mul, xbld51_0, tze51, xst51, un_not, bin_sub, xfad51_0, xst2, xfad51_1, xld51, fr24, wrap_int, wrap_u8, iteP_yes, iteP_no, k0, k3, k4, k5, k6, h8] | refine iteP_two (fun hc hd => ?_) (fun hc hd => ?_) | refine iteP_intro (fun hc => ?_) (fun hc => ?_))
          refine cf_rel (l02Is_c hX isb (by omega)) (fun q => by cases q) ?_
          rintro r G2 ⟨bb, rfl, rfl, hg⟩
          have hu := (show (-512 : Int) ≤ (v3 : Int) - 128 ∧ (v3 : Int) - 128 ≤ 512 by omega)
          have hv := (show (-512 : Int) ≤ (v4 : Int) - 128 ∧ (v4 : Int) - 128 ≤ 512 by omega)
          have dG := dA.trans hp.dst
          cases bb with
          | true =>
            have gd := hg.1 rfl
            (repeat' first | simp -dsimp (disch := first | omega | assumption | (refine OkS.sto ?_ (by omega); first | assumption | (refine OkS.sto ?_ (by omega); first | assumption | (refine OkS.sto ?_ (by omega); first | assumption | (refine OkS.sto ?_ (by omega); first | assumption | (refine OkS.sto ?_ (by omega); first | assumption | (refine OkS.sto ?_ (by omega); first | assumption)))))) | exact Pfx.refl _ | (apply Pfx.snoc; repeat (first | exact Pfx.refl _ | assumption | apply Pfx.snoc)) | with_unfolding_all exact of_eq_true (eq_true rfl) | (simp only [List.length_append, List.length_cons, List.length_nil]; omega)) only [↓gpre0, ↓wpre1, ↓reduceIte, Int.reduceToNat, Nat.reduceAdd, Nat.reduceMul, Nat.reduceEqDiff, wpost0, wpost1, wpost2, wpost3, wpost4, ite_self, ite_true, ite_false, if_true, if_false, bin_add, xbls24_0, xbls24_1, bin_lss, bin_mul, xbld51_0, tze51, xst51, un_not, bin_sub, xfad51_0, xst2, xfad51_1, xld51, fr24, wrap_int, wrap_u8, iteP_yes, iteP_no, k0, k3, k4, k5, k6, h8] | refine iteP_two (fun hc hd => ?_) (fun hc hd => ?_) | refine iteP_intro (fun hc => ?_) (fun hc => ?_))
            have hks2 : IntKind.i64.wrap ((i : Int) + 1) = ((i + 1 : Nat) : Int) := (wrap_int (by omega) (by omega)).trans hks
            refine ⟨16 - (i + 1), by omega, N, i + 1, n + 1, db, dc, l ++ [((v3 : Int) - 128), ((v4 : Int) - 128)], rfl, by omega, hN1, hN16, ?_⟩
            (repeat' (first | assumption | rfl | omega | (exact hks2) | (rw [hks]) | (exact hDb) | (exact hls) | (exact gd.n16) | (exact fun _ => gd) | (exact fun _ => by omega) | (exact fun j => nth_two hrng hu hv j) | (exact (SA.pre hp).more (by omega)) | (exact dG) | (exact (List.getElem?_eq_some_iff.1 hDb).1) | refine And.intro ?_ ?_))
          | false =>
            have hn0 : 0 < n := by
              rcases Nat.eq_zero_or_pos n with z | z
              · subst z
                have : l = [] := List.length_eq_zero_iff.1 (by omega)
                subst this
                exact absurd (hg.2 (good_one hu hv)) (by simp)
              · exact z
            (repeat' first | simp -dsimp (disch := first | omega | assumption | (refine OkS.sto ?_ (by omega); first | assumption | (refine OkS.sto ?_ (by omega); first | assumption | (refine OkS.sto ?_ (by omega); first | assumption | (refine OkS.sto ?_ (by omega); first | assumption | (refine OkS.sto ?_ (by omega); first | assumption | (refine OkS.sto ?_ (by omega); first | assumption)))))) | exact Pfx.refl _ | (apply Pfx.snoc; repeat (first | exact Pfx.refl _ | assumption | apply Pfx.snoc)) | with_unfolding_all exact of_eq_true (eq_true rfl) | (simp only [List.length_append, List.length_cons, List.length_nil]; omega)) only [↓gpre0, ↓wpre1, ↓reduceIte, Int.reduceToNat, Nat.reduceAdd, Nat.reduceMul, Nat.reduceEqDiff, wpost0, wpost1, wpost2, wpost3, wpost4, ite_self, ite_true, ite_false, if_true, if_false, bin_add, xbls24_0, xbls24_1, bin_lss, bin_mul, xbld51_0, tze51, xst51, un_not, bin_sub, xfad51_0, xst2, xfad51_1, xld51, fr24, wrap_int, wrap_u8, iteP_yes, iteP_no, k0, k3, k4, k5, k6, h8] | refine iteP_two (fun hc hd => ?_) (fun hc hd => ?_) | refine iteP_intro (fun hc => ?_) (fun hc => ?_))
            have hks2 : IntKind.i64.wrap ((i : Int) + 1) = ((i + 1 : Nat) : Int) := (wrap_int (by omega) (by omega)).trans hks
            refine ⟨16 - (i + 1), by omega, N, i + 1, n, yb, yc, l, rfl, by omega, hN1, hN16, ?_⟩
            (repeat' (first | assumption | rfl | omega | (exact hks2) | (rw [hks]) | (exact (hp.get (show yb < G4.length by omega)).trans D4') | (exact hll) | (exact hn16) | (exact hgood) | (exact fun _ => hn0) | (exact hrng) | (exact (SA.pre hp).more (by omega)) | (exact dG) | refine And.intro ?_ ?_))
      · have hin' : ¬ (i : Int) < (N : Int) := by omega
        (repeat' first | simp -dsimp (disch := first | omega | assumption | (refine OkS.sto ?_ (by omega); first | assumption | (refine OkS.sto ?_ (by omega); first | assumption | (refine OkS.sto ?_ (by omega); first | assumption | (refine OkS.sto ?_ (by omega); first | assumption | (refine OkS.sto ?_ (by omega); first | assumption | (refine OkS.sto ?_ (by omega); first | assumption)))))) | exact Pfx.refl _ | (apply Pfx.snoc; repeat (first | exact Pfx.refl _ | assumption | apply Pfx.snoc)) | with_unfolding_all exact of_eq_true (eq_true rfl) | (simp only [List.length_append, List.length_cons, List.length_nil]; omega)) only [↓gpre0, ↓wpre1, ↓reduceIte, Int.reduceToNat, Nat.reduceAdd, Nat.reduceMul, Nat.reduceEqDiff, wpost0, wpost1, wpost2, wpost3, wpost4, ite_self, ite_true, ite_false, if_true, if_false, bin_add, xbls24_0, xbls24_1, bin_lss, bin_mul, xbld51_0, tze51, xst51, un_not, bin_sub, xfad51_0, xst2, xfad51_1, xld51, fr24, wrap_int, wrap_u8, iteP_yes, iteP_no, g0, g3, g4, g5, g6, hin'] | refine iteP_two (fun hc hd => ?_) (fun hc hd => ?_) | refine iteP_intro (fun hc => ?_) (fun hc => ?_))
        exact ⟨n, yb, yc, l, rfl, hyb, hD, hll, hgood (hpos (by omega)), hrng, d5, S5.more (by omega)⟩
    · simp only [updO_at, updO_not, entry_at, List.getD_cons_zero, List.getD_cons_succ, ↓reduceIte, Nat.reduceEqDiff, true_and, and_true]
      first
        | exact ⟨v + 1, 0, 0, h.length, 0, [], by omega, by omega, by omega, by omega, by rw [Int.natCast_add, Int.add_comm]; rfl, rfl, rfl, Nat.le_refl _, D4, rfl, by omega, fun q => absurd q (by omega), fun q => absurd q (by omega), fun _ => rfl, fun j => by simp [nth], S4.more (by omega), d4, by omega⟩
        | exact ⟨16, 0, 0, h.length, 0, [], by omega, by omega, by omega, by omega, rfl, rfl, rfl, Nat.le_refl _, D4, rfl, by omega, fun q => absurd q (by omega), fun q => absurd q (by omega), fun _ => rfl, fun j => by simp [nth], S4.more (by omega), d4, by omega⟩
end Go.Proofs.Ytkhipobafchilaa.Sim

/- Valid places and directions of a law, drawn. Lemmas only; no condition. -/
set_option linter.unusedSimpArgs false
set_option linter.unusedVariables false
set_option maxRecDepth 8000
namespace Go.Proofs.Ytkhipobafchilaa.Sim
open Go Go.RowKit
variable {ro lo hi b A n : Nat} {X X' : Ext} {h : Heap} {x : Value} {cd : List UInt8}
structure PI where
  lo : Nat
  hi : Nat
  b : Nat
  A : Nat
  x : Value
  cd : List UInt8
noncomputable def cPl : Code := (Try.f24.body).get rfl
theorem cPl_body : Try.f24.body = some cPl := (Option.some_get _).symm
def prePl (ro : Nat) (i : PI) (args : List Value) (h : Heap) : Prop := args = [.pointer (some ⟨i.b, 0, none⟩)] ∧ SRC i.lo i.hi i.b i.A i.x i.cd h ∧ ro ≤ i.b ∧ i.hi ≤ i.b ∧ i.A ≤ 1152921504600000000 ∧ i.cd.length ≤ 1099511627776
def rPl (i : PI) (args : List Value) (h : Heap) (q : Value × Heap) : Prop := RPl i.lo i.hi i.b i.A i.x i.cd h q
noncomputable def xPl (ro : Nat) (X : Ext) : Ext := fun g => if g = 24 then some (fG Try.prog ro X Try.f24 cPl (RA (prePl ro) rPl)) else none
theorem xPl_ok {B : Base} (hX : XOk Try.prog ro B X) : XOk Try.prog ro B (xPl ro X) := fGX_ok mixed hX Try.func24 cPl_body (by decide) (by kernel_rfl)
theorem DrawOk_c (hW : XDW X) (hX : XN X) (hx : X' 24 = xPl ro X 24) (hS : SRC lo hi b A x cd h) (hro : ro ≤ b) (hq : hi ≤ b) (hA : A ≤ 1152921504600000000) (hl : cd.length ≤ 1099511627776) :
    CallR Try.prog ro X' 24 [.pointer (some ⟨b, 0, none⟩)] h (fun r h' => RPl lo hi b A x cd h (r, h')) := by
  refine fG_callA (pre := prePl ro) (R := rPl) (hx.trans (by unfold xPl; rw [if_pos rfl])) (Nat.le_of_ble_eq_true rfl) (fun i hi => ?_) ⟨lo, hi, b, A, x, cd⟩ ⟨rfl, hS, hro, hq, hA, hl⟩
  obtain ⟨lo', hi', b', A', x', cd'⟩ := i
  obtain ⟨h1, h2, h3, h4, h5, h6⟩ := hi
  have e : b = b' := by
    simp only [List.cons.injEq, and_true] at h1
    injection h1 with h1
    injection h1 with h1
    injection h1
  subst e
  exact l02Ok_w hW hX cPl_body h2 h3 h4 h5 h6
theorem Dst.pfx {h0 h1 h2 : Heap} {b : Nat} (p : Pfx h0 h1) (d : Dst b h1 h2) (hb : h0.length ≤ b) : Pfx h0 h2 := by
  refine List.ext_getElem? fun j => ?_
  rw [List.getElem?_take]
  have l1 := p.len
  by_cases q : j < h0.length
  · rw [if_pos q, d.2 j (by omega) (by omega)]; exact p.get q
  · rw [if_neg q, List.getElem?_eq_none (by omega)]
/-- Valid places, as a law draws them. -/
def Places (h : Heap) (r : Value) (h' : Heap) : Prop := ∃ (n yb yc : Nat) (l : List Int), r = .slice (some ⟨yb, 0, none⟩) n yc ∧ h.length ≤ yb ∧ h'[yb]? = some ⟨51, vints l⟩ ∧ l.length = n * 2 ∧ goodP n l ∧ (∀ j, -512 ≤ nth l j ∧ nth l j ≤ 512) ∧ Pfx h h'
end Go.Proofs.Ytkhipobafchilaa.Sim
