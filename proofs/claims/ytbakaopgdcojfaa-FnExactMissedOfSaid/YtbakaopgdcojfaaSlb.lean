/- Slots of beams: what the program says of them. Lemmas only; no condition. -/
import Derived.Test.YtbakaopgdcojfaaSla
set_option linter.unusedSimpArgs false
set_option linter.unusedVariables false
set_option maxRecDepth 8000
namespace Go.Proofs.Ytbakaopgdcojfaa.Sim
open Go Go.RowKit
variable {ro : Nat}
theorem within_j (a b c : Int) (h : Heap) : Ret Try.prog ro (extJ ro) 78 [.int .i64 a, .int .i64 b, .int .i64 c] h (.bool (decide (b ≤ a) && decide (a ≤ c))) := upR (within_r noX_n a b c h)
theorem switchTicks_j (a b c d : Int) (ha : -64 ≤ a ∧ a ≤ 64) (hb : -64 ≤ b ∧ b ≤ 64) (hc : -64 ≤ c ∧ c ≤ 64) (hd : -64 ≤ d ∧ d ≤ 64) (h : Heap) (hro : ro ≤ h.length) : Ret Try.prog ro (extJ ro) 89 [.agg ⟨[.int .i64 a, .int .i64 b]⟩, .agg ⟨[.int .i64 c, .int .i64 d]⟩] h (.int .i64 (swt a b c d)) := upR (switchTicks_r noX_n a b c d ha hb hc hd h hro)
theorem areBeams_j {lo hi n : Nat} {l : List Int} {x : Value} {h : Heap} (hI : IS lo hi 4 h x n l) (hn : n ≤ 1048576) (hro : ro ≤ h.length) : Ret Try.prog ro (extJ ro) 77 [x] h (.bool (isB n l)) := upR (areBeams_r noX_n hI hn hro)
theorem IS.all {lo hi k n : Nat} {h : Heap} {x : Value} {l : List Int} (s : IS lo hi k h x n l) : IS 0 h.length k h x n l :=
  ⟨s.1, s.2.imp id fun ⟨b, o, cap, Bk, h1, h2, h3, h4, h5⟩ => ⟨b, o, cap, Bk, h1, Nat.zero_le _, lt_of_some h4, h4, h5⟩⟩
theorem jobs_nth {m i : Nat} {s : List Int} (hi : i < m) : nth (jobsL (keysL m s) m) i = cn m s i (nth s (i * 2)) := by
  rw [jobsL_nth hi, keysL_nth hi]; rfl
set_option maxHeartbeats 4000000 in
theorem isPlan_r {lo hi lo2 hi2 n m : Nat} {l s : List Int} {x y : Value} {h : Heap} (hI : IS lo hi 4 h x n l) (hS : IS lo2 hi2 2 h y m s) (hn : n ≤ 1048576) (hm : m ≤ 1048576) (hr64 : ∀ j, j < m → r64 (nth s (j * 2))) (hro : ro ≤ h.length) : Ret Try.prog ro (extJ ro) 93 [x, y] h (.bool (isB n l && slB n l m s)) := by
  have hX := extJ_n (ro := ro)
  refine ret_of (callR_of (hX _ rfl) Try.func93 rfl (by kernel_rfl) (Nat.le_of_ble_eq_true rfl) ?_)
  cases hb : isB n l with
  | false => (repeat' first | simp -dsimp (disch := first | omega | assumption | (refine OkS.sto ?_ (by omega); first | assumption | (refine OkS.sto ?_ (by omega); first | assumption | (refine OkS.sto ?_ (by omega); first | assumption | (refine OkS.sto ?_ (by omega); first | assumption | (refine OkS.sto ?_ (by omega); first | assumption | (refine OkS.sto ?_ (by omega); first | assumption)))))) | exact Pfx.refl _ | (apply Pfx.snoc; repeat (first | exact Pfx.refl _ | assumption | apply Pfx.snoc)) | with_unfolding_all exact of_eq_true (eq_true rfl) | (simp only [List.length_append, List.length_cons, List.length_nil]; omega)) only [↓wpre0, ↓wpre1, ↓reduceIte, Int.reduceToNat, Nat.reduceAdd, Nat.reduceMul, Nat.reduceEqDiff, wpost0, wpost1, wpost2, wpost3, wpost4, ite_self, ite_true, ite_false, if_true, if_false, un_not, xlen56, bin_gtr, bin_lss, xiad56, xld115, tze115, xst115, xfad115_0, xld2, xlen42, bin_sub, xfad115_1, xiad63, xiad42, xfad98_2, bin_mul, xld98, tze98, xst98, xfad98_1, bin_add, xfad98_0, xld96, fr93, wrap_int, wrap_u8, iteP_yes, iteP_no, areBeams_j hI hn hro, hb, Bool.false_and] | refine iteP_two (fun hc hd => ?_) (fun hc hd => ?_) | refine iteP_intro (fun hc => ?_) (fun hc => ?_))
  | true =>
    have hnn := isB_n hb
    (repeat' first | simp -dsimp (disch := first | omega | assumption | (refine OkS.sto ?_ (by omega); first | assumption | (refine OkS.sto ?_ (by omega); first | assumption | (refine OkS.sto ?_ (by omega); first | assumption | (refine OkS.sto ?_ (by omega); first | assumption | (refine OkS.sto ?_ (by omega); first | assumption | (refine OkS.sto ?_ (by omega); first | assumption)))))) | exact Pfx.refl _ | (apply Pfx.snoc; repeat (first | exact Pfx.refl _ | assumption | apply Pfx.snoc)) | with_unfolding_all exact of_eq_true (eq_true rfl) | (simp only [List.length_append, List.length_cons, List.length_nil]; omega)) only [↓wpre0, ↓wpre1, ↓reduceIte, Int.reduceToNat, Nat.reduceAdd, Nat.reduceMul, Nat.reduceEqDiff, wpost0, wpost1, wpost2, wpost3, wpost4, ite_self, ite_true, ite_false, if_true, if_false, un_not, xlen56, bin_gtr, bin_lss, xiad56, xld115, tze115, xst115, xfad115_0, xld2, xlen42, bin_sub, xfad115_1, xiad63, xiad42, xfad98_2, bin_mul, xld98, tze98, xst98, xfad98_1, bin_add, xfad98_0, xld96, fr93, wrap_int, wrap_u8, iteP_yes, iteP_no, areBeams_j hI hn hro, hb, Bool.true_and, hS.len Try.underlying56] | refine iteP_two (fun hc hd => ?_) (fun hc hd => ?_) | refine iteP_intro (fun hc => ?_) (fun hc => ?_))
    · rw [slB_many (by omega)]
    refine cf_rel (jobs_r ⟨hS.all, hr64, by omega, hro⟩) (fun q => by cases q) ?_
    rintro r h1 ⟨p1, l1, hJ⟩
    have hS1 := hS.pre p1
    (repeat' first | simp -dsimp (disch := first | omega | assumption | (refine OkS.sto ?_ (by omega); first | assumption | (refine OkS.sto ?_ (by omega); first | assumption | (refine OkS.sto ?_ (by omega); first | assumption | (refine OkS.sto ?_ (by omega); first | assumption | (refine OkS.sto ?_ (by omega); first | assumption | (refine OkS.sto ?_ (by omega); first | assumption)))))) | exact Pfx.refl _ | (apply Pfx.snoc; repeat (first | exact Pfx.refl _ | assumption | apply Pfx.snoc)) | with_unfolding_all exact of_eq_true (eq_true rfl) | (simp only [List.length_append, List.length_cons, List.length_nil]; omega)) only [↓wpre0, ↓wpre1, ↓reduceIte, Int.reduceToNat, Nat.reduceAdd, Nat.reduceMul, Nat.reduceEqDiff, wpost0, wpost1, wpost2, wpost3, wpost4, ite_self, ite_true, ite_false, if_true, if_false, un_not, xlen56, bin_gtr, bin_lss, xiad56, xld115, tze115, xst115, xfad115_0, xld2, xlen42, bin_sub, xfad115_1, xiad63, xiad42, xfad98_2, bin_mul, xld98, tze98, xst98, xfad98_1, bin_add, xfad98_0, xld96, fr93, wrap_int, wrap_u8, iteP_yes, iteP_no, hS1.len Try.underlying56] | refine iteP_two (fun hc hd => ?_) (fun hc hd => ?_) | refine iteP_intro (fun hc => ?_) (fun hc => ?_))
    refine loop_rounds (fun k e h' => ∃ (i : Nat), k = m - i ∧ i ≤ m ∧ (∀ j, j < i → SlOk n l m s j) ∧ Pfx h1 h' ∧ e 0 = x ∧ e 1 = y ∧ e 5 = r ∧ e 20 = y ∧ e 21 = .int .i64 m ∧ e 22 = .int .i64 i) _ ⟨0, rfl, ?_⟩ ?_
    · simp only [updO_at, updO_not, entry_at, List.getD_cons_zero, List.getD_cons_succ, ↓reduceIte, Nat.reduceEqDiff, true_and, and_true]
      exact ⟨by omega, fun j hj => by omega, Pfx.refl _, rfl⟩
    rintro k e h' ⟨i, hk, him, hall, hpx, g0, g1, g5, g20, g21, g22⟩
    have hl := hpx.len
    have hp0 : Pfx h h' := p1.trans hpx
    have hI' := hI.pre hp0
    have hS' := hS.pre (p1.trans hpx)
    have hJ' := hJ.pre hpx
    have hI1 := hI.pre p1
    have hcr := cn_range m s i (nth s (i * 2))
    by_cases hin : i < m
    · have hc1 : ((i : Int) - 1).toNat = i - 1 := by omega
      have hge : 0 < i → nth s ((i - 1) * 2) ≤ (n : Int) - 1 ∧ 0 ≤ nth s ((i - 1) * 2) ∧ 0 ≤ nth s ((i - 1) * 2 + 1) ∧ nth s ((i - 1) * 2 + 1) ≤ 100000 ∧ BR l (nth s ((i - 1) * 2)).toNat := fun q => by
        have o := hall (i - 1) (by omega)
        exact ⟨o.b1, o.b0, o.at0 hb, o.a1, (o.br hb).1⟩
      have hgu : 0 < i → -64 ≤ nth l ((nth s ((i - 1) * 2)).toNat * 4) ∧ nth l ((nth s ((i - 1) * 2)).toNat * 4) ≤ 64 := fun q => (hge q).2.2.2.2.u
      have hgv : 0 < i → -64 ≤ nth l ((nth s ((i - 1) * 2)).toNat * 4 + 1) ∧ nth l ((nth s ((i - 1) * 2)).toNat * 4 + 1) ≤ 64 := fun q => (hge q).2.2.2.2.v
      have hgd : 0 < i → 1 ≤ nth l ((nth s ((i - 1) * 2)).toNat * 4 + 2) ∧ nth l ((nth s ((i - 1) * 2)).toNat * 4 + 2) ≤ 10000 := fun q => (hge q).2.2.2.2.d
      have hjn : nth (jobsL (keysL m s) m) (i * 1) = cn m s i (nth s (i * 2)) := by rw [Nat.mul_one]; exact jobs_nth hin
      by_cases hbr : 0 ≤ nth s (i * 2) ∧ nth s (i * 2) ≤ (n : Int) - 1
      · have b2 := br hb (i := (nth s (i * 2)).toNat) (by omega)
        have hbb : (decide (0 ≤ nth s (i * 2)) && decide (nth s (i * 2) ≤ (n : Int) - 1)) = true := by simp [hbr]
        have hbu := b2.u
        have hbv := b2.v
        have hbd := b2.d
        have hbp := b2.p
        have hpr := prod_range hcr.1 (by omega) (show 1 ≤ nth l ((nth s (i * 2)).toNat * 4 + 3) by omega) hbp.2
        have hsw : 0 < i → 0 ≤ swt (nth l ((nth s ((i - 1) * 2)).toNat * 4)) (nth l ((nth s ((i - 1) * 2)).toNat * 4 + 1)) (nth l ((nth s (i * 2)).toNat * 4)) (nth l ((nth s (i * 2)).toNat * 4 + 1)) ∧ swt (nth l ((nth s ((i - 1) * 2)).toNat * 4)) (nth l ((nth s ((i - 1) * 2)).toNat * 4 + 1)) (nth l ((nth s (i * 2)).toNat * 4)) (nth l ((nth s (i * 2)).toNat * 4 + 1)) ≤ 64 := fun q => swt_range (hgu q) (hgv q) hbu hbv
        have hsl : ∀ o : SlOk n l m s i, ∀ j, j < i + 1 → SlOk n l m s j := fun o j hj => by
          rcases Nat.lt_or_eq_of_le (show j ≤ i by omega) with q | q
          · exact hall j q
          · rw [q]; exact o
        by_cases har : 0 ≤ nth s (i * 2 + 1) ∧ nth s (i * 2 + 1) ≤ 100000
        · have hab : (decide (0 ≤ nth s (i * 2 + 1)) && decide (nth s (i * 2 + 1) ≤ 100000)) = true := by simp [har]
          (repeat' first | simp -dsimp (disch := first | omega | assumption | (refine OkS.sto ?_ (by omega); first | assumption | (refine OkS.sto ?_ (by omega); first | assumption | (refine OkS.sto ?_ (by omega); first | assumption | (refine OkS.sto ?_ (by omega); first | assumption | (refine OkS.sto ?_ (by omega); first | assumption | (refine OkS.sto ?_ (by omega); first | assumption)))))) | exact Pfx.refl _ | (apply Pfx.snoc; repeat (first | exact Pfx.refl _ | assumption | apply Pfx.snoc)) | with_unfolding_all exact of_eq_true (eq_true rfl) | (simp only [List.length_append, List.length_cons, List.length_nil]; omega)) only [↓wpre0, ↓wpre1, ↓reduceIte, Int.reduceToNat, Nat.reduceAdd, Nat.reduceMul, Nat.reduceEqDiff, wpost0, wpost1, wpost2, wpost3, wpost4, ite_self, ite_true, ite_false, if_true, if_false, un_not, xlen56, bin_gtr, bin_lss, xiad56, xld115, tze115, xst115, xfad115_0, xld2, xlen42, bin_sub, xfad115_1, xiad63, xiad42, xfad98_2, bin_mul, xld98, tze98, xst98, xfad98_1, bin_add, xfad98_0, xld96, fr93, wrap_int, wrap_u8, iteP_yes, iteP_no, g0, g1, g5, g20, g21, g22, hjn, hc1, hbb, hab, Bool.not_true, hS'.len Try.underlying56, hI'.len Try.underlying42, IS.iad hS' Try.underlying56 tsz115, IS.ldmp hS' tsz115 tag115, within_j, IS.iad hI' Try.underlying42 tsz98, IS.fad hI' tfi98_2 (by decide), IS.fad hI' tfi98_0 (by decide), IS.ld1p hI' tsz2 tag2, IS.ldmp hI' tsz96 tag96, IS.ldmp hI' tsz98 tag98, IS.iad hJ' Try.underlying63 tsz2, IS.ld1p hJ' tsz2 tag2, switchTicks_j] | refine iteP_two (fun hc hd => ?_) (fun hc hd => ?_) | refine iteP_intro (fun hc => ?_) (fun hc => ?_))
          all_goals first
            | (rw [slB_false hin (fun o => by
                have h1 := o.b0
                have h2 := o.b1
                have h3 := o.a0
                have h4 := o.a1
                have h5 := o.gap
                omega)]; done)
            | exact ⟨_, by omega, i + 1, rfl, by omega, hsl ⟨by omega, by omega, by omega, by omega, by omega⟩, by repeat (first | exact hpx | apply Pfx.snoc), by simp⟩
        · have hab : (decide (0 ≤ nth s (i * 2 + 1)) && decide (nth s (i * 2 + 1) ≤ 100000)) = false := by simp; omega
          (repeat' first | simp -dsimp (disch := first | omega | assumption | (refine OkS.sto ?_ (by omega); first | assumption | (refine OkS.sto ?_ (by omega); first | assumption | (refine OkS.sto ?_ (by omega); first | assumption | (refine OkS.sto ?_ (by omega); first | assumption | (refine OkS.sto ?_ (by omega); first | assumption | (refine OkS.sto ?_ (by omega); first | assumption)))))) | exact Pfx.refl _ | (apply Pfx.snoc; repeat (first | exact Pfx.refl _ | assumption | apply Pfx.snoc)) | with_unfolding_all exact of_eq_true (eq_true rfl) | (simp only [List.length_append, List.length_cons, List.length_nil]; omega)) only [↓wpre0, ↓wpre1, ↓reduceIte, Int.reduceToNat, Nat.reduceAdd, Nat.reduceMul, Nat.reduceEqDiff, wpost0, wpost1, wpost2, wpost3, wpost4, ite_self, ite_true, ite_false, if_true, if_false, un_not, xlen56, bin_gtr, bin_lss, xiad56, xld115, tze115, xst115, xfad115_0, xld2, xlen42, bin_sub, xfad115_1, xiad63, xiad42, xfad98_2, bin_mul, xld98, tze98, xst98, xfad98_1, bin_add, xfad98_0, xld96, fr93, wrap_int, wrap_u8, iteP_yes, iteP_no, g0, g1, g5, g20, g21, g22, hbb, hab, Bool.not_true, Bool.not_false, hS'.len Try.underlying56, hI'.len Try.underlying42, IS.iad hS' Try.underlying56 tsz115, IS.ldmp hS' tsz115 tag115, within_j] | refine iteP_two (fun hc hd => ?_) (fun hc hd => ?_) | refine iteP_intro (fun hc => ?_) (fun hc => ?_))
          all_goals rw [slB_false hin (fun o => har ⟨o.at0 hb, o.a1⟩)]
      · have hbb : (decide (0 ≤ nth s (i * 2)) && decide (nth s (i * 2) ≤ (n : Int) - 1)) = false := by simp; omega
        (repeat' first | simp -dsimp (disch := first | omega | assumption | (refine OkS.sto ?_ (by omega); first | assumption | (refine OkS.sto ?_ (by omega); first | assumption | (refine OkS.sto ?_ (by omega); first | assumption | (refine OkS.sto ?_ (by omega); first | assumption | (refine OkS.sto ?_ (by omega); first | assumption | (refine OkS.sto ?_ (by omega); first | assumption)))))) | exact Pfx.refl _ | (apply Pfx.snoc; repeat (first | exact Pfx.refl _ | assumption | apply Pfx.snoc)) | with_unfolding_all exact of_eq_true (eq_true rfl) | (simp only [List.length_append, List.length_cons, List.length_nil]; omega)) only [↓wpre0, ↓wpre1, ↓reduceIte, Int.reduceToNat, Nat.reduceAdd, Nat.reduceMul, Nat.reduceEqDiff, wpost0, wpost1, wpost2, wpost3, wpost4, ite_self, ite_true, ite_false, if_true, if_false, un_not, xlen56, bin_gtr, bin_lss, xiad56, xld115, tze115, xst115, xfad115_0, xld2, xlen42, bin_sub, xfad115_1, xiad63, xiad42, xfad98_2, bin_mul, xld98, tze98, xst98, xfad98_1, bin_add, xfad98_0, xld96, fr93, wrap_int, wrap_u8, iteP_yes, iteP_no, g0, g1, g5, g20, g21, g22, hbb, Bool.not_false, hS'.len Try.underlying56, hI'.len Try.underlying42, IS.iad hS' Try.underlying56 tsz115, IS.ldmp hS' tsz115 tag115, within_j] | refine iteP_two (fun hc hd => ?_) (fun hc hd => ?_) | refine iteP_intro (fun hc => ?_) (fun hc => ?_))
        all_goals rw [slB_false hin (fun o => hbr ⟨o.b0, o.b1⟩)]
    · have : i = m := by omega
      subst this
      (repeat' first | simp -dsimp (disch := first | omega | assumption | (refine OkS.sto ?_ (by omega); first | assumption | (refine OkS.sto ?_ (by omega); first | assumption | (refine OkS.sto ?_ (by omega); first | assumption | (refine OkS.sto ?_ (by omega); first | assumption | (refine OkS.sto ?_ (by omega); first | assumption | (refine OkS.sto ?_ (by omega); first | assumption)))))) | exact Pfx.refl _ | (apply Pfx.snoc; repeat (first | exact Pfx.refl _ | assumption | apply Pfx.snoc)) | with_unfolding_all exact of_eq_true (eq_true rfl) | (simp only [List.length_append, List.length_cons, List.length_nil]; omega)) only [↓wpre0, ↓wpre1, ↓reduceIte, Int.reduceToNat, Nat.reduceAdd, Nat.reduceMul, Nat.reduceEqDiff, wpost0, wpost1, wpost2, wpost3, wpost4, ite_self, ite_true, ite_false, if_true, if_false, un_not, xlen56, bin_gtr, bin_lss, xiad56, xld115, tze115, xst115, xfad115_0, xld2, xlen42, bin_sub, xfad115_1, xiad63, xiad42, xfad98_2, bin_mul, xld98, tze98, xst98, xfad98_1, bin_add, xfad98_0, xld96, fr93, wrap_int, wrap_u8, iteP_yes, iteP_no, g0, g1, g5, g20, g21, g22] | refine iteP_two (fun hc hd => ?_) (fun hc hd => ?_) | refine iteP_intro (fun hc => ?_) (fun hc => ?_))
      all_goals rw [slB_true (by omega) hall]
end Go.Proofs.Ytbakaopgdcojfaa.Sim
