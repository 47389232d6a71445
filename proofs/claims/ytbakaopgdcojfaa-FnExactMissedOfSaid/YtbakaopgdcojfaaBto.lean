/- Beams and slots of a law's argument, made again for the program. Lemmas only; no condition. -/
import Derived.Test.YtbakaopgdcojfaaSimY
import Derived.Test.YtbakaopgdcojfaaSimU
set_option linter.unusedSimpArgs false
set_option linter.unusedVariables false
namespace Go.Proofs.Ytbakaopgdcojfaa.Sim
open Go Go.RowKit
variable {ro : Nat} {X : Ext}
theorem szBeamS_r (hX : XN X) {lo hi n : Nat} {l : List Int} {x : Value} {h : Heap} {c : Int} (hI : IS lo hi 4 h x n l) (hn : n ≤ 140737488355328) (hc0 : 0 ≤ c) (hc1 : c ≤ 1152921504606846976) : Ret Try.prog ro X 22 [x, .int .i64 c] h (.int .i64 (if c - n < 0 then -1 else c - n)) := by
  refine ret_of (callR_of (hX _ rfl) Try.func22 rfl (by kernel_rfl) (Nat.le_of_ble_eq_true rfl) ?_)
  (repeat' first | simp -dsimp (disch := first | omega | assumption | (refine OkS.sto ?_ (by omega); first | assumption | (refine OkS.sto ?_ (by omega); first | assumption | (refine OkS.sto ?_ (by omega); first | assumption | (refine OkS.sto ?_ (by omega); first | assumption | (refine OkS.sto ?_ (by omega); first | assumption | (refine OkS.sto ?_ (by omega); first | assumption)))))) | exact Pfx.refl _ | (apply Pfx.snoc; repeat (first | exact Pfx.refl _ | assumption | apply Pfx.snoc)) | with_unfolding_all exact of_eq_true (eq_true rfl) | (simp only [List.length_append, List.length_cons, List.length_nil]; omega)) only [↓wpre0, ↓wpre1, ↓reduceIte, Int.reduceToNat, Nat.reduceAdd, Nat.reduceMul, Nat.reduceEqDiff, wpost0, wpost1, wpost2, wpost3, wpost4, ite_self, ite_true, ite_false, if_true, if_false, xlen37, bin_sub, bin_lss, fr22, wrap_int, wrap_u8, iteP_yes, iteP_no, hI.len Try.underlying37] | refine iteP_two (fun hc hd => ?_) (fun hc hd => ?_) | refine iteP_intro (fun hc => ?_) (fun hc => ?_))
  · rw [if_pos hc]
  · rw [if_neg hc]
theorem szSlotS_r (hX : XN X) {lo hi n : Nat} {l : List Int} {x : Value} {h : Heap} {c : Int} (hI : IS lo hi 2 h x n l) (hn : n ≤ 140737488355328) (hc0 : 0 ≤ c) (hc1 : c ≤ 1152921504606846976) : Ret Try.prog ro X 41 [x, .int .i64 c] h (.int .i64 (if c - n < 0 then -1 else c - n)) := by
  refine ret_of (callR_of (hX _ rfl) Try.func41 rfl (by kernel_rfl) (Nat.le_of_ble_eq_true rfl) ?_)
  (repeat' first | simp -dsimp (disch := first | omega | assumption | (refine OkS.sto ?_ (by omega); first | assumption | (refine OkS.sto ?_ (by omega); first | assumption | (refine OkS.sto ?_ (by omega); first | assumption | (refine OkS.sto ?_ (by omega); first | assumption | (refine OkS.sto ?_ (by omega); first | assumption | (refine OkS.sto ?_ (by omega); first | assumption)))))) | exact Pfx.refl _ | (apply Pfx.snoc; repeat (first | exact Pfx.refl _ | assumption | apply Pfx.snoc)) | with_unfolding_all exact of_eq_true (eq_true rfl) | (simp only [List.length_append, List.length_cons, List.length_nil]; omega)) only [↓wpre0, ↓wpre1, ↓reduceIte, Int.reduceToNat, Nat.reduceAdd, Nat.reduceMul, Nat.reduceEqDiff, wpost0, wpost1, wpost2, wpost3, wpost4, ite_self, ite_true, ite_false, if_true, if_false, xlen61, bin_sub, bin_lss, fr41, wrap_int, wrap_u8, iteP_yes, iteP_no, hI.len Try.underlying61] | refine iteP_two (fun hc hd => ?_) (fun hc hd => ?_) | refine iteP_intro (fun hc => ?_) (fun hc => ?_))
  · rw [if_pos hc]
  · rw [if_neg hc]
theorem toDirection_r (hX : XN X) (a b : Int) (h : Heap) (hro : ro ≤ h.length) : Ret Try.prog ro X 103 [.agg ⟨[.int .i64 a, .int .i64 b]⟩] h (.agg ⟨[.int .i64 a, .int .i64 b]⟩) := by
  refine ret_of (callR_of (hX _ rfl) Try.func103 rfl (by kernel_rfl) (Nat.le_of_ble_eq_true rfl) ?_)
  (repeat' first | simp -dsimp (disch := first | omega | assumption | (refine OkS.sto ?_ (by omega); first | assumption | (refine OkS.sto ?_ (by omega); first | assumption | (refine OkS.sto ?_ (by omega); first | assumption | (refine OkS.sto ?_ (by omega); first | assumption | (refine OkS.sto ?_ (by omega); first | assumption | (refine OkS.sto ?_ (by omega); first | assumption)))))) | exact Pfx.refl _ | (apply Pfx.snoc; repeat (first | exact Pfx.refl _ | assumption | apply Pfx.snoc)) | with_unfolding_all exact of_eq_true (eq_true rfl) | (simp only [List.length_append, List.length_cons, List.length_nil]; omega)) only [↓wpre0, ↓wpre1, ↓reduceIte, Int.reduceToNat, Nat.reduceAdd, Nat.reduceMul, Nat.reduceEqDiff, wpost0, wpost1, wpost2, wpost3, wpost4, ite_self, ite_true, ite_false, if_true, if_false, tze96, xfad101_0, xld2, xfad96_0, xst2, xfad101_1, xfad96_1, xld96, xst96, fr103, wrap_int, wrap_u8, iteP_yes, iteP_no] | refine iteP_two (fun hc hd => ?_) (fun hc hd => ?_) | refine iteP_intro (fun hc => ?_) (fun hc => ?_))
theorem toBeam_r (hX : XN X) (a b c d : Int) (h : Heap) (hro : ro ≤ h.length) : Ret Try.prog ro X 76 [.agg ⟨[.int .i64 a, .int .i64 b, .int .i64 c, .int .i64 d]⟩] h (.agg ⟨[.int .i64 a, .int .i64 b, .int .i64 c, .int .i64 d]⟩) := by
  refine ret_of (callR_of (hX _ rfl) Try.func76 rfl (by kernel_rfl) (Nat.le_of_ble_eq_true rfl) ?_)
  (repeat' first | simp -dsimp (disch := first | omega | assumption | (refine OkS.sto ?_ (by omega); first | assumption | (refine OkS.sto ?_ (by omega); first | assumption | (refine OkS.sto ?_ (by omega); first | assumption | (refine OkS.sto ?_ (by omega); first | assumption | (refine OkS.sto ?_ (by omega); first | assumption | (refine OkS.sto ?_ (by omega); first | assumption)))))) | exact Pfx.refl _ | (apply Pfx.snoc; repeat (first | exact Pfx.refl _ | assumption | apply Pfx.snoc)) | with_unfolding_all exact of_eq_true (eq_true rfl) | (simp only [List.length_append, List.length_cons, List.length_nil]; omega)) only [↓wpre0, ↓wpre1, ↓reduceIte, Int.reduceToNat, Nat.reduceAdd, Nat.reduceMul, Nat.reduceEqDiff, wpost0, wpost1, wpost2, wpost3, wpost4, ite_self, ite_true, ite_false, if_true, if_false, tze98, xfad103_0, xld101, xfad98_0, xst96, xfad103_1, xld2, xfad98_1, xst2, xfad103_2, xfad98_2, xld98, xst98, fr76, wrap_int, wrap_u8, iteP_yes, iteP_no, toDirection_r hX] | refine iteP_two (fun hc hd => ?_) (fun hc hd => ?_) | refine iteP_intro (fun hc => ?_) (fun hc => ?_))
theorem toSlot_r (hX : XN X) (a b : Int) (h : Heap) (hro : ro ≤ h.length) : Ret Try.prog ro X 92 [.agg ⟨[.int .i64 a, .int .i64 b]⟩] h (.agg ⟨[.int .i64 a, .int .i64 b]⟩) := by
  refine ret_of (callR_of (hX _ rfl) Try.func92 rfl (by kernel_rfl) (Nat.le_of_ble_eq_true rfl) ?_)
  (repeat' first | simp -dsimp (disch := first | omega | assumption | (refine OkS.sto ?_ (by omega); first | assumption | (refine OkS.sto ?_ (by omega); first | assumption | (refine OkS.sto ?_ (by omega); first | assumption | (refine OkS.sto ?_ (by omega); first | assumption | (refine OkS.sto ?_ (by omega); first | assumption | (refine OkS.sto ?_ (by omega); first | assumption)))))) | exact Pfx.refl _ | (apply Pfx.snoc; repeat (first | exact Pfx.refl _ | assumption | apply Pfx.snoc)) | with_unfolding_all exact of_eq_true (eq_true rfl) | (simp only [List.length_append, List.length_cons, List.length_nil]; omega)) only [↓wpre0, ↓wpre1, ↓reduceIte, Int.reduceToNat, Nat.reduceAdd, Nat.reduceMul, Nat.reduceEqDiff, wpost0, wpost1, wpost2, wpost3, wpost4, ite_self, ite_true, ite_false, if_true, if_false, tze115, xfad119_0, xld2, xfad115_0, xst2, xfad119_1, xfad115_1, xld115, xst115, fr92, wrap_int, wrap_u8, iteP_yes, iteP_no] | refine iteP_two (fun hc hd => ?_) (fun hc hd => ?_) | refine iteP_intro (fun hc => ?_) (fun hc => ?_))
theorem toBeamS_c (hX : XN X) {lo hi n : Nat} {l : List Int} {x : Value} {h : Heap} (hI : IS lo hi 4 h x n l) (hn : n ≤ 1099511627776) (hro : ro ≤ h.length) : CallR Try.prog ro X 24 [x] h (fun r h' => ∃ cap, r = .slice (some ⟨h.length, 0, none⟩) n cap ∧ Pfx h h' ∧ h'.length = h.length + 1 ∧ IS h.length (h.length + 1) 4 h' r n l) := by
  refine callR_of (hX _ rfl) Try.func24 rfl (by kernel_rfl) (Nat.le_of_ble_eq_true rfl) ?_
  (repeat' first | simp -dsimp (disch := first | omega | assumption | (refine OkS.sto ?_ (by omega); first | assumption | (refine OkS.sto ?_ (by omega); first | assumption | (refine OkS.sto ?_ (by omega); first | assumption | (refine OkS.sto ?_ (by omega); first | assumption | (refine OkS.sto ?_ (by omega); first | assumption | (refine OkS.sto ?_ (by omega); first | assumption)))))) | exact Pfx.refl _ | (apply Pfx.snoc; repeat (first | exact Pfx.refl _ | assumption | apply Pfx.snoc)) | with_unfolding_all exact of_eq_true (eq_true rfl) | (simp only [List.length_append, List.length_cons, List.length_nil]; omega)) only [↓wpre0, ↓wpre1, ↓reduceIte, Int.reduceToNat, Nat.reduceAdd, Nat.reduceMul, Nat.reduceEqDiff, wpost0, wpost1, wpost2, wpost3, wpost4, ite_self, ite_true, ite_false, if_true, if_false, xlen37, xmk42, bin_lss, xiad37, xld103, xiad42, xst98, bin_add, fr24, wrap_int, wrap_u8, iteP_yes, iteP_no, hI.len Try.underlying37] | refine iteP_two (fun hc hd => ?_) (fun hc hd => ?_) | refine iteP_intro (fun hc => ?_) (fun hc => ?_))
  have hJ := IS.made h 98 n 4
  have hp : Pfx h (h ++ [zblk 98 (n * 4)]) := (Pfx.refl h).snoc
  generalize hr : Value.slice (some ⟨h.length, 0, none⟩) n n = r at hJ
  refine loop_rounds (fun m e h' => ∃ i : Nat, m = n - i ∧ i ≤ n ∧ IS h.length (h.length + 1) 4 h' r n (cpy (i * 4) l (List.replicate (n * 4) 0)) ∧ Only h.length (h ++ [zblk 98 (n * 4)]) h' ∧ e 0 = x ∧ e 3 = r ∧ e 4 = .int .i64 i) _ ⟨0, rfl, ?_⟩ ?_
  · simp only [updO_at, updO_not, entry_at, List.getD_cons_zero, List.getD_cons_succ, ↓reduceIte, Nat.reduceEqDiff, true_and, and_true]
    refine ⟨by omega, ?_, .refl _ _, rfl⟩
    rw [Nat.zero_mul, cpy_zero]; exact hJ
  · rintro m e h' ⟨i, hm, hle, hI2, ho, g0, g3, g4⟩
    have hok := hI2.ok
    have hlen : h'.length = h.length + 1 := by rw [ho.1]; simp
    have hpx : Pfx h h' := by
      have e1 : h'.take h.length = h := by
        refine List.ext_getElem? fun j => ?_
        rw [List.getElem?_take]
        by_cases q : j < h.length
        · rw [if_pos q, ho.2 j (by omega), List.getElem?_append_left q]
        · rw [if_neg q, List.getElem?_eq_none (by omega)]
      exact e1
    have hI' := hI.pre hpx
    have hst : ∀ (g : Heap) (c : Nat) (vs : List Int), OkS h.length (h.length + 1) 4 n r g → vs.length = 4 → c + 4 ≤ n * 4 → stv Try.prog ro g 98 (ea r c) (.agg ⟨vints vs⟩) = some (stos g r c vs) := fun g c vs a b d => stv_stos tsz98 hro a b.symm (by omega) d
    by_cases hin : i < n
    · have hst1 := hst h' (i * 4) [nth l (i * 4), nth l (i * 4 + 1), nth l (i * 4 + 2), nth l (i * 4 + 3)] hok rfl (by omega)
      simp only [vints_cons, vints_nil] at hst1
      (repeat' first | simp -dsimp (disch := first | omega | assumption | (refine OkS.sto ?_ (by omega); first | assumption | (refine OkS.sto ?_ (by omega); first | assumption | (refine OkS.sto ?_ (by omega); first | assumption | (refine OkS.sto ?_ (by omega); first | assumption | (refine OkS.sto ?_ (by omega); first | assumption | (refine OkS.sto ?_ (by omega); first | assumption)))))) | exact Pfx.refl _ | (apply Pfx.snoc; repeat (first | exact Pfx.refl _ | assumption | apply Pfx.snoc)) | with_unfolding_all exact of_eq_true (eq_true rfl) | (simp only [List.length_append, List.length_cons, List.length_nil]; omega)) only [↓wpre0, ↓wpre1, ↓reduceIte, Int.reduceToNat, Nat.reduceAdd, Nat.reduceMul, Nat.reduceEqDiff, wpost0, wpost1, wpost2, wpost3, wpost4, ite_self, ite_true, ite_false, if_true, if_false, xlen37, xmk42, bin_lss, xiad37, xld103, xiad42, xst98, bin_add, fr24, wrap_int, wrap_u8, iteP_yes, iteP_no, g0, g3, g4, hI'.len Try.underlying37, IS.iad hI' Try.underlying37 tsz103, IS.ldm hI' tsz103 tag103, IS.iad hI2 Try.underlying42 tsz98, toBeam_r hX, hst1] | refine iteP_two (fun hc hd => ?_) (fun hc hd => ?_) | refine iteP_intro (fun hc => ?_) (fun hc => ?_))
      refine ⟨_, by omega, i + 1, rfl, by omega, ?_, ho.trans ?_, by simp⟩
      · have s0 := hI2.stos (c := i * 4) (vs := [nth l (i * 4), nth l (i * 4 + 1), nth l (i * 4 + 2), nth l (i * 4 + 3)]) (by simp only [List.length_cons, List.length_nil]; omega)
        rw [show (i + 1) * 4 = i * 4 + 4 by omega]
        have hll : (List.replicate (n * 4) (0 : Int)).length = n * 4 := by simp
        have e1 : sets (cpy (i * 4) l (List.replicate (n * 4) 0)) (i * 4) [nth l (i * 4), nth l (i * 4 + 1), nth l (i * 4 + 2), nth l (i * 4 + 3)] = cpy (i * 4 + 4) l (List.replicate (n * 4) 0) := by
          simp only [sets]
          rw [cpy_set (m := i * 4) (by omega) rfl, cpy_set (m := i * 4 + 1) (by omega) rfl, cpy_set (m := i * 4 + 1 + 1) (by omega) rfl, cpy_set (m := i * 4 + 1 + 1 + 1) (by omega) rfl]
        rw [e1] at s0
        exact s0
      · have := only_stos r [nth l (i * 4), nth l (i * 4 + 1), nth l (i * 4 + 2), nth l (i * 4 + 3)] h' (i * 4)
        rw [show bOf r = h.length by rw [← hr]; rfl] at this
        exact this
    · have : i = n := by omega
      subst this
      have hnf : flat r = false := by rw [← hr]; rfl
      (repeat' first | simp -dsimp (disch := first | omega | assumption | (refine OkS.sto ?_ (by omega); first | assumption | (refine OkS.sto ?_ (by omega); first | assumption | (refine OkS.sto ?_ (by omega); first | assumption | (refine OkS.sto ?_ (by omega); first | assumption | (refine OkS.sto ?_ (by omega); first | assumption | (refine OkS.sto ?_ (by omega); first | assumption)))))) | exact Pfx.refl _ | (apply Pfx.snoc; repeat (first | exact Pfx.refl _ | assumption | apply Pfx.snoc)) | with_unfolding_all exact of_eq_true (eq_true rfl) | (simp only [List.length_append, List.length_cons, List.length_nil]; omega)) only [↓wpre0, ↓wpre1, ↓reduceIte, Int.reduceToNat, Nat.reduceAdd, Nat.reduceMul, Nat.reduceEqDiff, wpost0, wpost1, wpost2, wpost3, wpost4, ite_self, ite_true, ite_false, if_true, if_false, xlen37, xmk42, bin_lss, xiad37, xld103, xiad42, xst98, bin_add, fr24, wrap_int, wrap_u8, iteP_yes, iteP_no, endH_not hnf, g0, g3, g4, hI'.len Try.underlying37] | refine iteP_two (fun hc hd => ?_) (fun hc hd => ?_) | refine iteP_intro (fun hc => ?_) (fun hc => ?_))
      rw [show cpy (i * 4) l (List.replicate (i * 4) 0) = l from by
        have := cpy_all (f := l) (l := List.replicate (i * 4) 0) (by simp [hI.1])
        simpa using this] at hI2
      exact ⟨_, hr.symm, hpx, hlen, hI2⟩
theorem toSlotS_c (hX : XN X) {lo hi n : Nat} {l : List Int} {x : Value} {h : Heap} (hI : IS lo hi 2 h x n l) (hn : n ≤ 1099511627776) (hro : ro ≤ h.length) : CallR Try.prog ro X 43 [x] h (fun r h' => ∃ cap, r = .slice (some ⟨h.length, 0, none⟩) n cap ∧ Pfx h h' ∧ h'.length = h.length + 1 ∧ IS h.length (h.length + 1) 2 h' r n l) := by
  refine callR_of (hX _ rfl) Try.func43 rfl (by kernel_rfl) (Nat.le_of_ble_eq_true rfl) ?_
  (repeat' first | simp -dsimp (disch := first | omega | assumption | (refine OkS.sto ?_ (by omega); first | assumption | (refine OkS.sto ?_ (by omega); first | assumption | (refine OkS.sto ?_ (by omega); first | assumption | (refine OkS.sto ?_ (by omega); first | assumption | (refine OkS.sto ?_ (by omega); first | assumption | (refine OkS.sto ?_ (by omega); first | assumption)))))) | exact Pfx.refl _ | (apply Pfx.snoc; repeat (first | exact Pfx.refl _ | assumption | apply Pfx.snoc)) | with_unfolding_all exact of_eq_true (eq_true rfl) | (simp only [List.length_append, List.length_cons, List.length_nil]; omega)) only [↓wpre0, ↓wpre1, ↓reduceIte, Int.reduceToNat, Nat.reduceAdd, Nat.reduceMul, Nat.reduceEqDiff, wpost0, wpost1, wpost2, wpost3, wpost4, ite_self, ite_true, ite_false, if_true, if_false, xlen61, xmk56, bin_lss, xiad61, xld119, xiad56, xst115, bin_add, fr43, wrap_int, wrap_u8, iteP_yes, iteP_no, hI.len Try.underlying61] | refine iteP_two (fun hc hd => ?_) (fun hc hd => ?_) | refine iteP_intro (fun hc => ?_) (fun hc => ?_))
  have hJ := IS.made h 115 n 2
  have hp : Pfx h (h ++ [zblk 115 (n * 2)]) := (Pfx.refl h).snoc
  generalize hr : Value.slice (some ⟨h.length, 0, none⟩) n n = r at hJ
  refine loop_rounds (fun m e h' => ∃ i : Nat, m = n - i ∧ i ≤ n ∧ IS h.length (h.length + 1) 2 h' r n (cpy (i * 2) l (List.replicate (n * 2) 0)) ∧ Only h.length (h ++ [zblk 115 (n * 2)]) h' ∧ e 0 = x ∧ e 3 = r ∧ e 4 = .int .i64 i) _ ⟨0, rfl, ?_⟩ ?_
  · simp only [updO_at, updO_not, entry_at, List.getD_cons_zero, List.getD_cons_succ, ↓reduceIte, Nat.reduceEqDiff, true_and, and_true]
    refine ⟨by omega, ?_, .refl _ _, rfl⟩
    rw [Nat.zero_mul, cpy_zero]; exact hJ
  · rintro m e h' ⟨i, hm, hle, hI2, ho, g0, g3, g4⟩
    have hok := hI2.ok
    have hlen : h'.length = h.length + 1 := by rw [ho.1]; simp
    have hpx : Pfx h h' := by
      have e1 : h'.take h.length = h := by
        refine List.ext_getElem? fun j => ?_
        rw [List.getElem?_take]
        by_cases q : j < h.length
        · rw [if_pos q, ho.2 j (by omega), List.getElem?_append_left q]
        · rw [if_neg q, List.getElem?_eq_none (by omega)]
      exact e1
    have hI' := hI.pre hpx
    have hst : ∀ (g : Heap) (c : Nat) (vs : List Int), OkS h.length (h.length + 1) 2 n r g → vs.length = 2 → c + 2 ≤ n * 2 → stv Try.prog ro g 115 (ea r c) (.agg ⟨vints vs⟩) = some (stos g r c vs) := fun g c vs a b d => stv_stos tsz115 hro a b.symm (by omega) d
    by_cases hin : i < n
    · have hst1 := hst h' (i * 2) [nth l (i * 2), nth l (i * 2 + 1)] hok rfl (by omega)
      simp only [vints_cons, vints_nil] at hst1
      (repeat' first | simp -dsimp (disch := first | omega | assumption | (refine OkS.sto ?_ (by omega); first | assumption | (refine OkS.sto ?_ (by omega); first | assumption | (refine OkS.sto ?_ (by omega); first | assumption | (refine OkS.sto ?_ (by omega); first | assumption | (refine OkS.sto ?_ (by omega); first | assumption | (refine OkS.sto ?_ (by omega); first | assumption)))))) | exact Pfx.refl _ | (apply Pfx.snoc; repeat (first | exact Pfx.refl _ | assumption | apply Pfx.snoc)) | with_unfolding_all exact of_eq_true (eq_true rfl) | (simp only [List.length_append, List.length_cons, List.length_nil]; omega)) only [↓wpre0, ↓wpre1, ↓reduceIte, Int.reduceToNat, Nat.reduceAdd, Nat.reduceMul, Nat.reduceEqDiff, wpost0, wpost1, wpost2, wpost3, wpost4, ite_self, ite_true, ite_false, if_true, if_false, xlen61, xmk56, bin_lss, xiad61, xld119, xiad56, xst115, bin_add, fr43, wrap_int, wrap_u8, iteP_yes, iteP_no, g0, g3, g4, hI'.len Try.underlying61, IS.iad hI' Try.underlying61 tsz119, IS.ldm hI' tsz119 tag119, IS.iad hI2 Try.underlying56 tsz115, toSlot_r hX, hst1] | refine iteP_two (fun hc hd => ?_) (fun hc hd => ?_) | refine iteP_intro (fun hc => ?_) (fun hc => ?_))
      refine ⟨_, by omega, i + 1, rfl, by omega, ?_, ho.trans ?_, by simp⟩
      · have s0 := hI2.stos (c := i * 2) (vs := [nth l (i * 2), nth l (i * 2 + 1)]) (by simp only [List.length_cons, List.length_nil]; omega)
        rw [show (i + 1) * 2 = i * 2 + 2 by omega]
        have hll : (List.replicate (n * 2) (0 : Int)).length = n * 2 := by simp
        have e1 : sets (cpy (i * 2) l (List.replicate (n * 2) 0)) (i * 2) [nth l (i * 2), nth l (i * 2 + 1)] = cpy (i * 2 + 2) l (List.replicate (n * 2) 0) := by
          simp only [sets]
          rw [cpy_set (m := i * 2) (by omega) rfl, cpy_set (m := i * 2 + 1) (by omega) rfl]
        rw [e1] at s0
        exact s0
      · have := only_stos r [nth l (i * 2), nth l (i * 2 + 1)] h' (i * 2)
        rw [show bOf r = h.length by rw [← hr]; rfl] at this
        exact this
    · have : i = n := by omega
      subst this
      have hnf : flat r = false := by rw [← hr]; rfl
      (repeat' first | simp -dsimp (disch := first | omega | assumption | (refine OkS.sto ?_ (by omega); first | assumption | (refine OkS.sto ?_ (by omega); first | assumption | (refine OkS.sto ?_ (by omega); first | assumption | (refine OkS.sto ?_ (by omega); first | assumption | (refine OkS.sto ?_ (by omega); first | assumption | (refine OkS.sto ?_ (by omega); first | assumption)))))) | exact Pfx.refl _ | (apply Pfx.snoc; repeat (first | exact Pfx.refl _ | assumption | apply Pfx.snoc)) | with_unfolding_all exact of_eq_true (eq_true rfl) | (simp only [List.length_append, List.length_cons, List.length_nil]; omega)) only [↓wpre0, ↓wpre1, ↓reduceIte, Int.reduceToNat, Nat.reduceAdd, Nat.reduceMul, Nat.reduceEqDiff, wpost0, wpost1, wpost2, wpost3, wpost4, ite_self, ite_true, ite_false, if_true, if_false, xlen61, xmk56, bin_lss, xiad61, xld119, xiad56, xst115, bin_add, fr43, wrap_int, wrap_u8, iteP_yes, iteP_no, endH_not hnf, g0, g3, g4, hI'.len Try.underlying61] | refine iteP_two (fun hc hd => ?_) (fun hc hd => ?_) | refine iteP_intro (fun hc => ?_) (fun hc => ?_))
      rw [show cpy (i * 2) l (List.replicate (i * 2) 0) = l from by
        have := cpy_all (f := l) (l := List.replicate (i * 2) 0) (by simp [hI.1])
        simpa using this] at hI2
      exact ⟨_, hr.symm, hpx, hlen, hI2⟩
end Go.Proofs.Ytbakaopgdcojfaa.Sim
