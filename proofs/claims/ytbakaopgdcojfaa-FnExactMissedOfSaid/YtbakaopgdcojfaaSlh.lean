/- Jobs that have not ended: what the program says. Lemmas only; no condition. -/
import Derived.Test.YtbakaopgdcojfaaSlf
set_option linter.unusedSimpArgs false
set_option linter.unusedVariables false
set_option maxRecDepth 8000
namespace Go.Proofs.Ytbakaopgdcojfaa.Sim
open Go Go.RowKit
variable {ro : Nat}
/-- Jobs that were due. -/
def dueL (l : List Int) (u : Int) (i : Nat) : List Int := (List.range i).map fun k => u / nth l (k * 4 + 3)
theorem dueL_succ (l : List Int) (u : Int) (i : Nat) : vints (dueL l u (i + 1)) = vints (dueL l u i) ++ [.int .i64 (u / nth l (i * 4 + 3))] := by
  simp [dueL, List.range_succ, vints]
theorem dueL_nth {l : List Int} {u : Int} {i q : Nat} (h : q < i) : nth (dueL l u i) q = u / nth l (q * 4 + 3) := by simp [nth, dueL, h]
theorem missL_nth {n : Nat} {l : List Int} {m : Nat} {s : List Int} {u : Int} {i q : Nat} (h : q < i) : nth (missL n l m s u i) q = missI l m s u q := by simp [nth, missL, h]
theorem du_range (l : List Int) (m : Nat) (s : List Int) (u : Int) (k : Nat) : ∀ i, 0 ≤ du l m s u k i ∧ du l m s u k i ≤ i
  | 0 => by simp [du]
  | i + 1 => by
    have := du_range l m s u k i
    simp only [du]
    split <;> omega
set_option maxHeartbeats 4000000 in
theorem iMissed_c {lo hi lo2 hi2 n m : Nat} {l s : List Int} {x y : Value} {h : Heap} {u : Int} (hI : IS lo hi 4 h x n l) (hS : IS lo2 hi2 2 h y m s) (hn : n ≤ 1048576) (hm : m ≤ 1048576) (hr64 : ∀ j, j < m → r64 (nth s (j * 2))) (hro : ro ≤ h.length) :
    CallR Try.prog ro (extJ ro) 49 [x, y, .int .i64 u] h (fun r h' => ResL h h' r (plU n l m s u) (missL n l m s u n)) := by
  have hX := extJ_n (ro := ro)
  refine callR_of (hX _ rfl) Try.func49 rfl (by kernel_rfl) (Nat.le_of_ble_eq_true rfl) ?_
  cases hp : plB n l m s with
  | false =>
    have hpl := isPlan_r (ro := ro) hI hS hn hm hr64 hro
    rw [show (isB n l && slB n l m s) = false from hp] at hpl
    have hpu : plU n l m s u = false := by simp [plU, hp]
    (repeat' first | simp -dsimp (disch := first | omega | assumption | (refine OkS.sto ?_ (by omega); first | assumption | (refine OkS.sto ?_ (by omega); first | assumption | (refine OkS.sto ?_ (by omega); first | assumption | (refine OkS.sto ?_ (by omega); first | assumption | (refine OkS.sto ?_ (by omega); first | assumption | (refine OkS.sto ?_ (by omega); first | assumption)))))) | exact Pfx.refl _ | (apply Pfx.snoc; repeat (first | exact Pfx.refl _ | assumption | apply Pfx.snoc)) | with_unfolding_all exact of_eq_true (eq_true rfl) | (simp only [List.length_append, List.length_cons, List.length_nil]; omega)) only [↓wpre0, ↓wpre1, ↓reduceIte, Int.reduceToNat, Nat.reduceAdd, Nat.reduceMul, Nat.reduceEqDiff, wpost0, wpost1, wpost2, wpost3, wpost4, ite_self, ite_true, ite_false, if_true, if_false, un_not, xbls63_0, xbls63_1, xlen42, bin_lss, xiad42, xld98, tze98, xst98, xfad98_2, xld2, bin_quo, bin_add, xlen63, xiad63, xiad56, xld115, tze115, xst115, xfad115_0, bin_mul, bin_leq, xfad115_1, xfad98_1, bin_sub, xst2, fr49, wrap_int, wrap_u8, iteP_yes, iteP_no, hpl] | refine iteP_two (fun hc hd => ?_) (fun hc hd => ?_) | refine iteP_intro (fun hc => ?_) (fun hc => ?_))
    exact resL_no (Pfx.refl _) hpu
  | true =>
  have hpl := isPlan_r (ro := ro) hI hS hn hm hr64 hro
  rw [show (isB n l && slB n l m s) = true from hp] at hpl
  by_cases hu : 0 ≤ u ∧ u ≤ 100000
  · have huB : (decide (0 ≤ u) && decide (u ≤ 100000)) = true := by simp [hu]
    have hpu : plU n l m s u = true := by simp [plU, hp, hu]
    obtain ⟨hb, hsb⟩ : isB n l = true ∧ slB n l m s = true := by simpa [plB] using hp
    obtain ⟨hm2, hok⟩ := slB_ok hsb
    have hnn := isB_n hb
    (repeat' first | simp -dsimp (disch := first | omega | assumption | (refine OkS.sto ?_ (by omega); first | assumption | (refine OkS.sto ?_ (by omega); first | assumption | (refine OkS.sto ?_ (by omega); first | assumption | (refine OkS.sto ?_ (by omega); first | assumption | (refine OkS.sto ?_ (by omega); first | assumption | (refine OkS.sto ?_ (by omega); first | assumption)))))) | exact Pfx.refl _ | (apply Pfx.snoc; repeat (first | exact Pfx.refl _ | assumption | apply Pfx.snoc)) | with_unfolding_all exact of_eq_true (eq_true rfl) | (simp only [List.length_append, List.length_cons, List.length_nil]; omega)) only [↓wpre0, ↓wpre1, ↓reduceIte, Int.reduceToNat, Nat.reduceAdd, Nat.reduceMul, Nat.reduceEqDiff, wpost0, wpost1, wpost2, wpost3, wpost4, ite_self, ite_true, ite_false, if_true, if_false, un_not, xbls63_0, xbls63_1, xlen42, bin_lss, xiad42, xld98, tze98, xst98, xfad98_2, xld2, bin_quo, bin_add, xlen63, xiad63, xiad56, xld115, tze115, xst115, xfad115_0, bin_mul, bin_leq, xfad115_1, xfad98_1, bin_sub, xst2, fr49, wrap_int, wrap_u8, iteP_yes, iteP_no, hpl, within_j, huB, hI.len Try.underlying42] | refine iteP_two (fun hc hd => ?_) (fun hc hd => ?_) | refine iteP_intro (fun hc => ?_) (fun hc => ?_))
    refine loop_rounds (fun k e h' => ∃ (i : Nat) (yv : Value), k = n - i ∧ i ≤ n ∧ VG h.length 2 1 h' yv i (vints (dueL l u i)) ∧ Pfx h h' ∧ e 0 = x ∧ e 1 = y ∧ e 2 = .int .i64 u ∧ e 8 = yv ∧ e 25 = x ∧ e 26 = .int .i64 n ∧ e 27 = .int .i64 i) _ ⟨0, .slice (some ⟨h.length, 0, none⟩) 0 0, rfl, ?_⟩ ?_
    · simp only [updO_at, updO_not, entry_at, List.getD_cons_zero, List.getD_cons_succ, ↓reduceIte, Nat.reduceEqDiff, true_and, and_true]
      exact ⟨by omega, vg_new h (Nat.le_refl _), (Pfx.refl h).snoc, by simp⟩
    rintro k e h' ⟨i, yv, hk, him, hG, hpx, g0, g1, g2, g8, g25, g26, g27⟩
    have hl := hpx.len
    by_cases hin : i < n
    · have bb := br hb hin
      have bd := bb.d
      have bp := bb.p
      have hgb := hG.bof
      obtain ⟨t1, t2, t3⟩ := tdiv_range hu.1 (show 1 ≤ nth l (i * 4 + 3) by omega)
      have tw : IntKind.i64.wrap (u.tdiv (nth l (i * 4 + 3))) = u / nth l (i * 4 + 3) := by rw [t1]; exact wrap_int (by omega) (by omega)
      have hq := bin_quo (P := Try.prog) 2 .i64 u (nth l (i * 4 + 3)) (by omega)
      rw [tw] at hq
      generalize hbl : (⟨98, [.int .i64 (nth l (i * 4)), .int .i64 (nth l (i * 4 + 1)), .int .i64 (nth l (i * 4 + 2)), .int .i64 (nth l (i * 4 + 3))]⟩ : Blk) = bl
      have pA : Pfx h' (h' ++ [bl]) := (Pfx.refl h').snoc
      have lA : (h' ++ [bl]).length = h'.length + 1 := by simp
      obtain ⟨H, ap, vg, old, hH⟩ := acc1 (P := Try.prog) (ro := ro) (T := 63) (v := .int .i64 (u / nth l (i * 4 + 3))) tel63 tsz2 tby2 tze2 (.inl (hG.pre pA)) (by omega) (by omega) rfl (by omega) (by omega)
      subst hbl
      (repeat' first | simp -dsimp (disch := first | omega | assumption | (refine OkS.sto ?_ (by omega); first | assumption | (refine OkS.sto ?_ (by omega); first | assumption | (refine OkS.sto ?_ (by omega); first | assumption | (refine OkS.sto ?_ (by omega); first | assumption | (refine OkS.sto ?_ (by omega); first | assumption | (refine OkS.sto ?_ (by omega); first | assumption)))))) | exact Pfx.refl _ | (apply Pfx.snoc; repeat (first | exact Pfx.refl _ | assumption | apply Pfx.snoc)) | with_unfolding_all exact of_eq_true (eq_true rfl) | (simp only [List.length_append, List.length_cons, List.length_nil]; omega)) only [↓wpre0, ↓wpre1, ↓reduceIte, Int.reduceToNat, Nat.reduceAdd, Nat.reduceMul, Nat.reduceEqDiff, wpost0, wpost1, wpost2, wpost3, wpost4, ite_self, ite_true, ite_false, if_true, if_false, un_not, xbls63_0, xbls63_1, xlen42, bin_lss, xiad42, xld98, tze98, xst98, xfad98_2, xld2, bin_quo, bin_add, xlen63, xiad63, xiad56, xld115, tze115, xst115, xfad115_0, bin_mul, bin_leq, xfad115_1, xfad98_1, bin_sub, xst2, fr49, wrap_int, wrap_u8, iteP_yes, iteP_no, g0, g1, g2, g8, g25, g26, g27, IS.iad hI Try.underlying42 tsz98, IS.ldmp hI tsz98 tag98, hq, ap] | refine iteP_two (fun hc hd => ?_) (fun hc hd => ?_) | refine iteP_intro (fun hc => ?_) (fun hc => ?_))
      refine ⟨_, by omega, i + 1, _, rfl, by omega, ?_, old.1 _ (hpx.trans pA) (by omega), rfl, by simp⟩
      rw [dueL_succ]
      exact vg
    · have : i = n := by omega
      subst this
      (repeat' first | simp -dsimp (disch := first | omega | assumption | (refine OkS.sto ?_ (by omega); first | assumption | (refine OkS.sto ?_ (by omega); first | assumption | (refine OkS.sto ?_ (by omega); first | assumption | (refine OkS.sto ?_ (by omega); first | assumption | (refine OkS.sto ?_ (by omega); first | assumption | (refine OkS.sto ?_ (by omega); first | assumption)))))) | exact Pfx.refl _ | (apply Pfx.snoc; repeat (first | exact Pfx.refl _ | assumption | apply Pfx.snoc)) | with_unfolding_all exact of_eq_true (eq_true rfl) | (simp only [List.length_append, List.length_cons, List.length_nil]; omega)) only [↓wpre0, ↓wpre1, ↓reduceIte, Int.reduceToNat, Nat.reduceAdd, Nat.reduceMul, Nat.reduceEqDiff, wpost0, wpost1, wpost2, wpost3, wpost4, ite_self, ite_true, ite_false, if_true, if_false, un_not, xbls63_0, xbls63_1, xlen42, bin_lss, xiad42, xld98, tze98, xst98, xfad98_2, xld2, bin_quo, bin_add, xlen63, xiad63, xiad56, xld115, tze115, xst115, xfad115_0, bin_mul, bin_leq, xfad115_1, xfad98_1, bin_sub, xst2, fr49, wrap_int, wrap_u8, iteP_yes, iteP_no, g0, g1, g2, g8, g25, g26, g27] | refine iteP_two (fun hc hd => ?_) (fun hc hd => ?_) | refine iteP_intro (fun hc => ?_) (fun hc => ?_))
      refine cf_rel (jobs_r ⟨(hS.pre hpx).all, hr64, by omega, by omega⟩) (fun q => by cases q) ?_
      rintro r h1 ⟨p1, l1, hJ⟩
      have hgb := hG.bof
      (repeat' first | simp -dsimp (disch := first | omega | assumption | (refine OkS.sto ?_ (by omega); first | assumption | (refine OkS.sto ?_ (by omega); first | assumption | (refine OkS.sto ?_ (by omega); first | assumption | (refine OkS.sto ?_ (by omega); first | assumption | (refine OkS.sto ?_ (by omega); first | assumption | (refine OkS.sto ?_ (by omega); first | assumption)))))) | exact Pfx.refl _ | (apply Pfx.snoc; repeat (first | exact Pfx.refl _ | assumption | apply Pfx.snoc)) | with_unfolding_all exact of_eq_true (eq_true rfl) | (simp only [List.length_append, List.length_cons, List.length_nil]; omega)) only [↓wpre0, ↓wpre1, ↓reduceIte, Int.reduceToNat, Nat.reduceAdd, Nat.reduceMul, Nat.reduceEqDiff, wpost0, wpost1, wpost2, wpost3, wpost4, ite_self, ite_true, ite_false, if_true, if_false, un_not, xbls63_0, xbls63_1, xlen42, bin_lss, xiad42, xld98, tze98, xst98, xfad98_2, xld2, bin_quo, bin_add, xlen63, xiad63, xiad56, xld115, tze115, xst115, xfad115_0, bin_mul, bin_leq, xfad115_1, xfad98_1, bin_sub, xst2, fr49, wrap_int, wrap_u8, iteP_yes, iteP_no, g0, g1, g2, g8, IS.len hJ Try.underlying63] | refine iteP_two (fun hc hd => ?_) (fun hc hd => ?_) | refine iteP_intro (fun hc => ?_) (fun hc => ?_))
      refine loop_rounds (fun k e h2 => ∃ (j : Nat) (os : List Int), k = m - j ∧ j ≤ m ∧ VG h.length 2 1 h2 yv i (vints os) ∧ (∀ q, q < i → nth os q = u / nth l (q * 4 + 3) - du l m s u q j) ∧ IS h'.length (h'.length + 1) 1 h2 r m (jobsL (keysL m s) m) ∧ Pfx h h2 ∧ h'.length + 1 ≤ h2.length ∧ e 0 = x ∧ e 1 = y ∧ e 2 = .int .i64 u ∧ e 8 = yv ∧ e 40 = r ∧ e 41 = .int .i64 m ∧ e 42 = .int .i64 j) _ ⟨0, dueL l u i, rfl, ?_⟩ ?_
      · simp only [updO_at, updO_not, entry_at, List.getD_cons_zero, List.getD_cons_succ, ↓reduceIte, Nat.reduceEqDiff, true_and, and_true]
        exact ⟨by omega, hG.pre p1, fun q hq => by rw [dueL_nth hq]; simp [du], hJ, hpx.trans p1, by omega, g0, g1, g2, g8, rfl⟩
      rintro k e h2 ⟨j, os, hk, hjm, hG, hos, hJ, hpx2, hl2, g0, g1, g2, g8, g40, g41, g42⟩
      have hll2 := hpx2.len
      by_cases hjn : j < m
      · have o := hok j hjn
        have b0 := o.b0
        have b1 := o.b1
        have at0 := o.at0 hb
        have at1 := o.a1
        have bb := (o.br hb).1
        have bd := bb.d
        have bp := bb.p
        have hcr := cn_range m s j (nth s (j * 2))
        have hosl : os.length = i := by have := hG.1; rw [vints_len] at this; omega
        have hpr := prod_range (c := cn m s j (nth s (j * 2)) + 1) (by omega) (by omega) (show 1 ≤ nth l ((nth s (j * 2)).toNat * 4 + 3) by omega) bp.2
        have hjn2 : nth (jobsL (keysL m s) m) (j * 1) = cn m s j (nth s (j * 2)) := by rw [Nat.mul_one]; exact jobs_nth hjn
        have hb2 : ((nth s (j * 2)).toNat : Int) = nth s (j * 2) := Int.toNat_of_nonneg b0
        have hdu := du_range l m s u (nth s (j * 2)).toNat j
        obtain ⟨t1, t2, t3⟩ := tdiv_range hu.1 (show 1 ≤ nth l ((nth s (j * 2)).toNat * 4 + 3) by omega)
        have hosb := hos (nth s (j * 2)).toNat (by omega)
        have hld : ∀ (g : Heap) (c : Nat), Pfx h2 g → c < i * 1 → ld Try.prog g 2 (ea yv c) = some (.int .i64 (nth os c)) := fun g c p hc => by
          rw [(hG.pre p).vsl.ld1 tsz2 tag2 hc, vth_vints (by omega)]
        have hst : ∀ (g : Heap) (c : Nat) (v : Int), Pfx h2 g → c < i * 1 → stv Try.prog ro g 2 (ea yv c) (.int .i64 v) = some (sto g yv c (.int .i64 v)) := fun g c v p hc => (hG.pre p).vsl.stv tsz2 (by omega) rfl rfl hc
        have hosb1 : nth os ((nth s (j * 2)).toNat * 1) = u / nth l ((nth s (j * 2)).toNat * 4 + 3) - du l m s u (nth s (j * 2)).toNat j := by rw [Nat.mul_one]; exact hosb
        have hhit : (cn m s j (nth s (j * 2)) + 1) * nth l ((nth s (j * 2)).toNat * 4 + 3) ≤ u → nth s (j * 2 + 1) + nth l ((nth s (j * 2)).toNat * 4 + 2) ≤ u → ∀ q, q < i → nth (os.set ((nth s (j * 2)).toNat * 1) (u / nth l ((nth s (j * 2)).toNat * 4 + 3) - du l m s u (nth s (j * 2)).toNat j - 1)) q = u / nth l (q * 4 + 3) - du l m s u q (j + 1) := fun h1 h2 q hq => by
          rw [nth_set (by omega)]
          by_cases e : (nth s (j * 2)).toNat * 1 = q
          · have e2 : (nth s (j * 2)).toNat = q := by omega
            rw [if_pos e]
            rw [e2] at h1 h2 ⊢
            have e3 : nth s (j * 2) = (q : Int) := by omega
            rw [e3] at h1
            have hd : dnB l s u q j = true := by simp only [dnB, Bool.and_eq_true, decide_eq_true_eq]; exact ⟨e3, h2⟩
            simp only [du]
            rw [if_pos ⟨hd, h1⟩]
            omega
          · rw [if_neg e, hos q hq]
            have hd : ¬ dnB l s u q j = true := by simp only [dnB, Bool.and_eq_true, decide_eq_true_eq]; omega
            simp only [du]
            rw [if_neg (fun w => hd w.1), Int.add_zero]
        have hmiss : (¬ ((cn m s j (nth s (j * 2)) + 1) * nth l ((nth s (j * 2)).toNat * 4 + 3) ≤ u) ∨ ¬ (nth s (j * 2 + 1) + nth l ((nth s (j * 2)).toNat * 4 + 2) ≤ u)) → ∀ q, q < i → nth os q = u / nth l (q * 4 + 3) - du l m s u q (j + 1) := fun hn q hq => by
          rw [hos q hq]
          simp only [du]
          rw [if_neg, Int.add_zero]
          rintro ⟨hd, h1⟩
          simp only [dnB, Bool.and_eq_true, decide_eq_true_eq] at hd
          have e2 : (nth s (j * 2)).toNat = q := by omega
          rw [e2, hd.1] at hn
          rcases hn with w | w
          · exact w h1
          · exact w hd.2
        have hyb := hG.bof
        have hvs : ∀ (g : Heap) (v : Int), Pfx h2 g → VG h.length 2 1 (sto g yv ((nth s (j * 2)).toNat * 1) (.int .i64 v)) yv i (vints (os.set ((nth s (j * 2)).toNat * 1) v)) := fun g v p => by
          have := (hG.pre p).sto (c := (nth s (j * 2)).toNat * 1) (by omega) (.int .i64 v)
          rw [show (vints os).set ((nth s (j * 2)).toNat * 1) (.int .i64 v) = vints (os.set ((nth s (j * 2)).toNat * 1) v) by simp [vints, List.map_set]] at this
          exact this
        have hJs : ∀ (g : Heap) (v : Value), Pfx h2 g → IS h'.length (h'.length + 1) 1 (sto g yv ((nth s (j * 2)).toNat * 1) v) r m (jobsL (keysL m s) m) := fun g v p => (hJ.pre p).frame fun b q1 q2 => sto_get (by omega)
        have hPs : ∀ (g : Heap) (v : Value), Pfx h2 g → Pfx h (sto g yv ((nth s (j * 2)).toNat * 1) v) := fun g v p => (hpx2.trans p).sto (by omega)
        (repeat' first | simp -dsimp (disch := first | omega | assumption | (refine OkS.sto ?_ (by omega); first | assumption | (refine OkS.sto ?_ (by omega); first | assumption | (refine OkS.sto ?_ (by omega); first | assumption | (refine OkS.sto ?_ (by omega); first | assumption | (refine OkS.sto ?_ (by omega); first | assumption | (refine OkS.sto ?_ (by omega); first | assumption)))))) | exact Pfx.refl _ | (apply Pfx.snoc; repeat (first | exact Pfx.refl _ | assumption | apply Pfx.snoc)) | with_unfolding_all exact of_eq_true (eq_true rfl) | (simp only [List.length_append, List.length_cons, List.length_nil]; omega)) only [↓wpre0, ↓wpre1, ↓reduceIte, Int.reduceToNat, Nat.reduceAdd, Nat.reduceMul, Nat.reduceEqDiff, wpost0, wpost1, wpost2, wpost3, wpost4, ite_self, ite_true, ite_false, if_true, if_false, un_not, xbls63_0, xbls63_1, xlen42, bin_lss, xiad42, xld98, tze98, xst98, xfad98_2, xld2, bin_quo, bin_add, xlen63, xiad63, xiad56, xld115, tze115, xst115, xfad115_0, bin_mul, bin_leq, xfad115_1, xfad98_1, bin_sub, xst2, fr49, wrap_int, wrap_u8, iteP_yes, iteP_no, g0, g1, g2, g8, g40, g41, g42, hjn2, hosb1, IS.iad hJ Try.underlying63 tsz2, IS.ld1p hJ tsz2 tag2, IS.iad hS Try.underlying56 tsz115, IS.ldmp hS tsz115 tag115, IS.iad hI Try.underlying42 tsz98, IS.ldmp hI tsz98 tag98, VS.iad hG.vsl Try.underlying63 tsz2, hld, hst] | refine iteP_two (fun hc hd => ?_) (fun hc hd => ?_) | refine iteP_intro (fun hc => ?_) (fun hc => ?_))
        · have pA := fun a b => ((Pfx.refl h2).snoc (C := a)).snoc (C := b)
          exact ⟨_, by omega, j + 1, _, rfl, by omega, hvs _ _ (pA _ _), hhit (by assumption) (by assumption), hJs _ _ (pA _ _), hPs _ _ (pA _ _), by rw [sto_len]; simp; omega, by simp⟩
        all_goals
          have pA := fun a b => ((Pfx.refl h2).snoc (C := a)).snoc (C := b)
          exact ⟨_, by omega, j + 1, os, rfl, by omega, hG.pre (pA _ _), hmiss (by first | (left; assumption) | (right; assumption)), hJ.pre (pA _ _), hpx2.trans (pA _ _), by simp; omega, by simp⟩
      · have : j = m := by omega
        subst this
        (repeat' first | simp -dsimp (disch := first | omega | assumption | (refine OkS.sto ?_ (by omega); first | assumption | (refine OkS.sto ?_ (by omega); first | assumption | (refine OkS.sto ?_ (by omega); first | assumption | (refine OkS.sto ?_ (by omega); first | assumption | (refine OkS.sto ?_ (by omega); first | assumption | (refine OkS.sto ?_ (by omega); first | assumption)))))) | exact Pfx.refl _ | (apply Pfx.snoc; repeat (first | exact Pfx.refl _ | assumption | apply Pfx.snoc)) | with_unfolding_all exact of_eq_true (eq_true rfl) | (simp only [List.length_append, List.length_cons, List.length_nil]; omega)) only [↓wpre0, ↓wpre1, ↓reduceIte, Int.reduceToNat, Nat.reduceAdd, Nat.reduceMul, Nat.reduceEqDiff, wpost0, wpost1, wpost2, wpost3, wpost4, ite_self, ite_true, ite_false, if_true, if_false, un_not, xbls63_0, xbls63_1, xlen42, bin_lss, xiad42, xld98, tze98, xst98, xfad98_2, xld2, bin_quo, bin_add, xlen63, xiad63, xiad56, xld115, tze115, xst115, xfad115_0, bin_mul, bin_leq, xfad115_1, xfad98_1, bin_sub, xst2, fr49, wrap_int, wrap_u8, iteP_yes, iteP_no, g0, g1, g2, g8, g40, g41, g42] | refine iteP_two (fun hc hd => ?_) (fun hc hd => ?_) | refine iteP_intro (fun hc => ?_) (fun hc => ?_))
        rw [endH_not (by cases hG with | intro _ g => obtain ⟨b, cap, rfl, _⟩ := g; rfl)]
        have e1 : os = missL i l j s u i := nth_ext (by rw [missL_len]; have := hG.1; rw [vints_len] at this; omega) fun q hq => by
          have := hG.1
          rw [vints_len] at this
          rw [missL_nth (by omega), hos q (by omega), missI_du hb hok (by omega) hu.1]
        rw [e1] at hG
        exact resL_yes hpx2 hpu (by omega) hG
  · have huB : (decide (0 ≤ u) && decide (u ≤ 100000)) = false := by simp; omega
    have hpu : plU n l m s u = false := by simp only [plU, huB, Bool.and_false]
    (repeat' first | simp -dsimp (disch := first | omega | assumption | (refine OkS.sto ?_ (by omega); first | assumption | (refine OkS.sto ?_ (by omega); first | assumption | (refine OkS.sto ?_ (by omega); first | assumption | (refine OkS.sto ?_ (by omega); first | assumption | (refine OkS.sto ?_ (by omega); first | assumption | (refine OkS.sto ?_ (by omega); first | assumption)))))) | exact Pfx.refl _ | (apply Pfx.snoc; repeat (first | exact Pfx.refl _ | assumption | apply Pfx.snoc)) | with_unfolding_all exact of_eq_true (eq_true rfl) | (simp only [List.length_append, List.length_cons, List.length_nil]; omega)) only [↓wpre0, ↓wpre1, ↓reduceIte, Int.reduceToNat, Nat.reduceAdd, Nat.reduceMul, Nat.reduceEqDiff, wpost0, wpost1, wpost2, wpost3, wpost4, ite_self, ite_true, ite_false, if_true, if_false, un_not, xbls63_0, xbls63_1, xlen42, bin_lss, xiad42, xld98, tze98, xst98, xfad98_2, xld2, bin_quo, bin_add, xlen63, xiad63, xiad56, xld115, tze115, xst115, xfad115_0, bin_mul, bin_leq, xfad115_1, xfad98_1, bin_sub, xst2, fr49, wrap_int, wrap_u8, iteP_yes, iteP_no, hpl, within_j, huB] | refine iteP_two (fun hc hd => ?_) (fun hc hd => ?_) | refine iteP_intro (fun hc => ?_) (fun hc => ?_))
    exact resL_no (Pfx.refl _) hpu
end Go.Proofs.Ytbakaopgdcojfaa.Sim
