/- The power of the sky, walked. Lemmas only; no condition. -/
import Derived.Test.YtelogajobjflfaaSkc
import Derived.Test.YtelogajobjflfaaSkp
import Derived.Test.YtelogajobjflfaaDrr
import Derived.Test.YtelogajobjflfaaLah
set_option linter.unusedSimpArgs false
set_option linter.unusedVariables false
set_option maxRecDepth 8000
namespace Go.Proofs.Ytelogajobjflfaa.Sim
open Go Go.RowKit Fl
variable {ro n : Nat} {X : Ext} {h : Heap} {x y : Value} {l : List Int} {f : Nat → CB} {u v : Int}
/-- One direction more. -/
def skP (f : Nat → CB) (l : List Int) (n : Nat) (u v : Int) (a : Nat × Nat) : Nat × Nat := if dirB u v = true then (farith .add .f64 a.1 (wd (poF f l n u v)), a.2 + 1) else a
/-- Sums of so many powers at most. -/
def gdS (c : Nat) (a : Nat × Nat) : Prop := bn .f64 c 1119 a.1 ∧ a.2 ≤ c
theorem bn.mono {k : FloatKind} {n m u b : Nat} (h : bn k n u b) (hm : n ≤ m) : bn k m u b := by
  obtain ⟨v, h1, h2⟩ := h
  exact ⟨v, h1, Nat.le_trans h2 (Nat.mul_le_mul_right _ hm)⟩
theorem skP_gd (hg : goodP n l) (hf : ∀ i, i < n → bdC 150 (f i)) {c : Nat} {a : Nat × Nat} (h : gdS c a) (hc : c ≤ 100000) : gdS (c + 1) (skP f l n u v a) := by
  unfold skP
  split
  · rename_i hd
    have b := (wd_bd (poF_bd hg hd hf).2).2
    exact ⟨add_bn h.1 b.bn (Nat.lt_of_le_of_lt (show c + 1 ≤ 100001 by omega) (by decide)) (by decide), Nat.add_le_add_right h.2 1⟩
  · exact ⟨bn.mono h.1 (Nat.le_succ _), Nat.le_succ_of_le h.2⟩
theorem rowI_gd (hg : goodP n l) (hf : ∀ i, i < n → bdC 150 (f i)) {step m c : Nat} {a : Nat × Nat} (h : gdS c a) : ∀ {k : Nat}, c + k ≤ 100000 → gdS (c + k) (rowI (skP f l n) step m v a k)
  | 0, _ => h
  | k + 1, hk => skP_gd hg hf (rowI_gd hg hf h (k := k) (by omega)) (Nat.le_of_succ_le hk)
theorem zero_gd : gdS 0 (0, 0) := ⟨⟨0, zero_fin64, Nat.zero_le _⟩, Nat.le_refl _⟩
theorem colI_gd (hg : goodP n l) (hf : ∀ i, i < n → bdC 150 (f i)) {step m : Nat} (hm : m ≤ 64) : ∀ {k : Nat}, k ≤ 2 * m + 1 → gdS (k * (2 * m + 1)) (colI (skP f l n) step m (0, 0) k)
  | 0, _ => by rw [Nat.zero_mul]; exact zero_gd
  | k + 1, hk => by
    rw [Nat.succ_mul]
    refine rowI_gd hg hf (colI_gd hg hf hm (k := k) (by omega)) ?_
    have : k * (2 * m + 1) ≤ 128 * 129 := Nat.mul_le_mul (by omega) (by omega)
    omega
theorem gd_last {m : Nat} (hm : m ≤ 64) {a : Nat × Nat} (h : gdS ((2 * m + 1) * (2 * m + 1)) a) : okN a.1 ∧ bd .f32 209 (nr a.1) ∧ a.2 ≤ 16641 := by
  have e : (2 * m + 1) * (2 * m + 1) ≤ 129 * 129 := Nat.mul_le_mul (by omega) (by omega)
  have b : bd .f64 (209 + 925) a.1 := (h.1.bd (c := 15) (Nat.le_trans e (by decide)))
  exact ⟨(nr_bd b (by decide)).1, (nr_bd b (by decide)).2, Nat.le_trans h.2 e⟩
/-- The whole sum. -/
def skT (f : Nat → CB) (l : List Int) (n step m : Nat) : Nat × Nat := colI (skP f l n) step m (0, 0) (2 * m + 1)
set_option maxHeartbeats 8000000 in
theorem SkyPower_r (hX : XN X) (hA : XAbs X) (k : PW ro h x y n l f) {step m r : Nat} (h64 : m * step + r = 64) (hr : r < step) (hs : step ≤ 64) (hro : ro ≤ h.length) : Ret Try.prog ro X 37 [x, y, .int .i64 step] h (.tuple ⟨[.float .f32 (nr (skT f l n step m).1), .int .i64 ((skT f l n step m).2 : Nat), .bool true]⟩) := by
  obtain ⟨M, hM⟩ : ∃ M, M = m * step := ⟨_, rfl⟩
  rw [← hM] at h64
  have hm : m ≤ 64 := by
    rcases Nat.lt_or_ge 64 m with q | q
    · have : 65 * 1 ≤ m * step := Nat.mul_le_mul q (by omega)
      omega
    · exact q
  have hq : (64 : Int).tdiv (step : Int) = (m : Int) := by
    have : (64 : Int).tdiv (step : Int) = ((64 / step : Nat) : Int) := rfl
    rw [this, Nat.div_eq_of_lt_le (k := m) (by omega) (by rw [Nat.succ_mul]; omega)]
  have hmM : (m : Int) * (step : Int) = (M : Int) := by rw [hM, Int.natCast_mul]
  have hw : (decide ((1 : Int) ≤ (step : Int)) && decide ((step : Int) ≤ 64)) = true := by simp; omega
  obtain ⟨okT, bdT, leT⟩ := gd_last hm (colI_gd k.g k.bd (step := step) hm (Nat.le_refl _))
  refine ret_of (callR_of (hX _ rfl) Try.func37 rfl (by kernel_rfl) (Nat.le_of_ble_eq_true rfl) ?_)
  (repeat' first | simp -dsimp (disch := first | omega | assumption | (refine OkS.sto ?_ (by omega); first | assumption | (refine OkS.sto ?_ (by omega); first | assumption | (refine OkS.sto ?_ (by omega); first | assumption | (refine OkS.sto ?_ (by omega); first | assumption | (refine OkS.sto ?_ (by omega); first | assumption | (refine OkS.sto ?_ (by omega); first | assumption)))))) | exact Pfx.refl _ | (apply Pfx.snoc; repeat (first | exact Pfx.refl _ | assumption | apply Pfx.snoc)) | with_unfolding_all exact of_eq_true (eq_true rfl) | (simp only [List.length_append, List.length_cons, List.length_nil]; omega)) only [↓wpre0, ↓wpre1, ↓reduceIte, Int.reduceToNat, Nat.reduceAdd, Nat.reduceMul, Nat.reduceEqDiff, wpost0, wpost1, wpost2, wpost3, wpost4, ite_self, ite_true, ite_false, if_true, if_false, un_not, bin_quo, bin_mul, un_neg, bin_leq, xbld62_0_1, tze62, xst62, xld62, xcv29_59, bin_fadd, bin_add, xcv59_29, fr37, wrap_int, wrap_u8, iteP_yes, iteP_no, areFor_r hX k hro, wit_r hX, hw, bin_quo, hq, hmM] | refine iteP_two (fun hc hd => ?_) (fun hc hd => ?_) | refine iteP_intro (fun hc => ?_) (fun hc => ?_))
  refine loop_rounds (fun mm e h' => ∃ j J : Nat, mm = 2 * m + 1 - j ∧ j ≤ 2 * m + 1 ∧ J = j * step ∧ Pfx h h' ∧ e 0 = x ∧ e 1 = y ∧ e 2 = .int .i64 step ∧ e 9 = .float .f64 (colI (skP f l n) step m (0, 0) j).1 ∧ e 10 = .int .i64 ((colI (skP f l n) step m (0, 0) j).2 : Nat) ∧ e 11 = .int .i64 M ∧ e 12 = .int .i64 ((J : Int) - M)) _ ⟨0, 0, rfl, ?_⟩ ?_
  · simp only [updO_at, updO_not, entry_at, List.getD_cons_zero, List.getD_cons_succ, ↓reduceIte, Nat.reduceEqDiff, true_and, and_true]
    (repeat' (first | assumption | rfl | omega | exact (Nat.zero_mul _).symm | exact Pfx.refl _ | (congr 1; omega) | refine And.intro ?_ ?_))
  · rintro mm e h' ⟨j, J, hmm, hle, hJ, hp, g0, g1, g2, g9, g10, g11, g12⟩
    have hlp := hp.len
    by_cases hj : j ≤ 2 * m
    · have hJ2 : J ≤ 2 * M := by
        have := Nat.mul_le_mul_right step hj
        rw [Nat.mul_assoc] at this
        omega
      have hJ1 : J + step = (j + 1) * step := by rw [Nat.succ_mul]; omega
      (repeat' first | simp -dsimp (disch := first | omega | assumption | (refine OkS.sto ?_ (by omega); first | assumption | (refine OkS.sto ?_ (by omega); first | assumption | (refine OkS.sto ?_ (by omega); first | assumption | (refine OkS.sto ?_ (by omega); first | assumption | (refine OkS.sto ?_ (by omega); first | assumption | (refine OkS.sto ?_ (by omega); first | assumption)))))) | exact Pfx.refl _ | (apply Pfx.snoc; repeat (first | exact Pfx.refl _ | assumption | apply Pfx.snoc)) | with_unfolding_all exact of_eq_true (eq_true rfl) | (simp only [List.length_append, List.length_cons, List.length_nil]; omega)) only [↓wpre0, ↓wpre1, ↓reduceIte, Int.reduceToNat, Nat.reduceAdd, Nat.reduceMul, Nat.reduceEqDiff, wpost0, wpost1, wpost2, wpost3, wpost4, ite_self, ite_true, ite_false, if_true, if_false, un_not, bin_quo, bin_mul, un_neg, bin_leq, xbld62_0_1, tze62, xst62, xld62, xcv29_59, bin_fadd, bin_add, xcv59_29, fr37, wrap_int, wrap_u8, iteP_yes, iteP_no, g0, g1, g2, g9, g10, g11, g12] | refine iteP_two (fun hc hd => ?_) (fun hc hd => ?_) | refine iteP_intro (fun hc => ?_) (fun hc => ?_))
      refine loop_exit 2 (fun e h2 => Pfx h h2 ∧ e 0 = x ∧ e 1 = y ∧ e 2 = .int .i64 step ∧ e 9 = .float .f64 (colI (skP f l n) step m (0, 0) (j + 1)).1 ∧ e 10 = .int .i64 ((colI (skP f l n) step m (0, 0) (j + 1)).2 : Nat) ∧ e 11 = .int .i64 M ∧ e 12 = .int .i64 ((J : Int) - M)) ?_ ?_
      · refine loop_rounds (fun mm e h2 => ∃ i I : Nat, mm = 2 * m + 1 - i ∧ i ≤ 2 * m + 1 ∧ I = i * step ∧ Pfx h h2 ∧ e 0 = x ∧ e 1 = y ∧ e 2 = .int .i64 step ∧ e 9 = .float .f64 (rowI (skP f l n) step m ((J : Int) - M) (colI (skP f l n) step m (0, 0) j) i).1 ∧ e 10 = .int .i64 ((rowI (skP f l n) step m ((J : Int) - M) (colI (skP f l n) step m (0, 0) j) i).2 : Nat) ∧ e 11 = .int .i64 M ∧ e 12 = .int .i64 ((J : Int) - M) ∧ e 13 = .int .i64 ((I : Int) - M)) _ ⟨0, 0, rfl, ?_⟩ ?_
        · simp only [updO_at, updO_not, entry_at, List.getD_cons_zero, List.getD_cons_succ, ↓reduceIte, Nat.reduceEqDiff, true_and, and_true]
          (repeat' (first | assumption | rfl | omega | exact (Nat.zero_mul _).symm | (congr 1; omega) | refine And.intro ?_ ?_))
        · rintro mm e h2 ⟨i, I, hmm, hle2, hI, hp2, g0, g1, g2, g9, g10, g11, g12, g13⟩
          have hlp2 := hp2.len
          have bj : j * (2 * m + 1) ≤ 128 * 129 := Nat.mul_le_mul (by omega) (by omega)
          have bnd := (rowI_gd k.g k.bd (v := (J : Int) - M) (step := step) (m := m) (colI_gd k.g k.bd (step := step) hm (show j ≤ 2 * m + 1 by omega)) (k := i) (by omega)).2
          have er : rowI (skP f l n) step m ((J : Int) - M) (colI (skP f l n) step m (0, 0) j) (i + 1) = skP f l n ((I : Int) - M) ((J : Int) - M) (rowI (skP f l n) step m ((J : Int) - M) (colI (skP f l n) step m (0, 0) j) i) := by rw [hI, hM]; rfl
          by_cases hi : i ≤ 2 * m
          · have hI2 : I ≤ 2 * M := by
              have := Nat.mul_le_mul_right step hi
              rw [Nat.mul_assoc] at this
              omega
            have hI1 : I + step = (i + 1) * step := by rw [Nat.succ_mul]; omega
            generalize rowI (skP f l n) step m ((J : Int) - M) (colI (skP f l n) step m (0, 0) j) i = a at *
            obtain ⟨u, hu⟩ : ∃ u : Int, u = (I : Int) - M := ⟨_, rfl⟩
            obtain ⟨v, hv⟩ : ∃ v : Int, v = (J : Int) - M := ⟨_, rfl⟩
            rw [← hu] at g13 er
            rw [← hv] at g12 er
            have ku := k.pre (hp2.snoc (C := ⟨62, [.int .i64 u, .int .i64 v]⟩))
            have hro2 : ro ≤ (h2 ++ [(⟨62, [.int .i64 u, .int .i64 v]⟩ : Blk)]).length := by simp; omega
            have hi1 : (I : Int) - M + step = ((I + step : Nat) : Int) - M := by omega
            cases hd : dirB u v with
            | true =>
              have ea : skP f l n u v a = (farith .add .f64 a.1 (wd (poF f l n u v)), a.2 + 1) := by unfold skP; rw [if_pos hd]
              (repeat' first | simp -dsimp (disch := first | omega | assumption | (refine OkS.sto ?_ (by omega); first | assumption | (refine OkS.sto ?_ (by omega); first | assumption | (refine OkS.sto ?_ (by omega); first | assumption | (refine OkS.sto ?_ (by omega); first | assumption | (refine OkS.sto ?_ (by omega); first | assumption | (refine OkS.sto ?_ (by omega); first | assumption)))))) | exact Pfx.refl _ | (apply Pfx.snoc; repeat (first | exact Pfx.refl _ | assumption | apply Pfx.snoc)) | with_unfolding_all exact of_eq_true (eq_true rfl) | (simp only [List.length_append, List.length_cons, List.length_nil]; omega)) only [↓wpre0, ↓wpre1, ↓reduceIte, Int.reduceToNat, Nat.reduceAdd, Nat.reduceMul, Nat.reduceEqDiff, wpost0, wpost1, wpost2, wpost3, wpost4, ite_self, ite_true, ite_false, if_true, if_false, un_not, bin_quo, bin_mul, un_neg, bin_leq, xbld62_0_1, tze62, xst62, xld62, xcv29_59, bin_fadd, bin_add, xcv59_29, fr37, wrap_int, wrap_u8, iteP_yes, iteP_no, g0, g1, g2, g9, g10, g11, g12, g13, vDir_r hX u v _ hro2, hd, patternAt_r hX hA ku hd hro2, PowerP_r hX ku hd, cv_w (wd_bd (poF_bd k.g hd k.bd).2).1] | refine iteP_two (fun hc hd => ?_) (fun hc hd => ?_) | refine iteP_intro (fun hc => ?_) (fun hc => ?_))
              refine ⟨2 * m + 1 - (i + 1), by omega, i + 1, I + step, rfl, ?_⟩
              rw [← hv, er, ea]
              (repeat' (first | assumption | rfl | omega | exact hp2.snoc | (rw [hu, hi1]) | refine And.intro ?_ ?_))
            | false =>
              have ea : skP f l n u v a = a := by unfold skP; rw [if_neg (by rw [hd]; decide)]
              (repeat' first | simp -dsimp (disch := first | omega | assumption | (refine OkS.sto ?_ (by omega); first | assumption | (refine OkS.sto ?_ (by omega); first | assumption | (refine OkS.sto ?_ (by omega); first | assumption | (refine OkS.sto ?_ (by omega); first | assumption | (refine OkS.sto ?_ (by omega); first | assumption | (refine OkS.sto ?_ (by omega); first | assumption)))))) | exact Pfx.refl _ | (apply Pfx.snoc; repeat (first | exact Pfx.refl _ | assumption | apply Pfx.snoc)) | with_unfolding_all exact of_eq_true (eq_true rfl) | (simp only [List.length_append, List.length_cons, List.length_nil]; omega)) only [↓wpre0, ↓wpre1, ↓reduceIte, Int.reduceToNat, Nat.reduceAdd, Nat.reduceMul, Nat.reduceEqDiff, wpost0, wpost1, wpost2, wpost3, wpost4, ite_self, ite_true, ite_false, if_true, if_false, un_not, bin_quo, bin_mul, un_neg, bin_leq, xbld62_0_1, tze62, xst62, xld62, xcv29_59, bin_fadd, bin_add, xcv59_29, fr37, wrap_int, wrap_u8, iteP_yes, iteP_no, g0, g1, g2, g9, g10, g11, g12, g13, vDir_r hX u v _ hro2, hd] | refine iteP_two (fun hc hd => ?_) (fun hc hd => ?_) | refine iteP_intro (fun hc => ?_) (fun hc => ?_))
              refine ⟨2 * m + 1 - (i + 1), by omega, i + 1, I + step, rfl, ?_⟩
              rw [← hv, er, ea]
              (repeat' (first | assumption | rfl | omega | exact hp2.snoc | (rw [hu, hi1]) | refine And.intro ?_ ?_))
          · have ei : i = 2 * m + 1 := by omega
            have hI2 : I = 2 * M + step := by rw [hI, ei, Nat.succ_mul, Nat.mul_assoc, ← hM]
            (repeat' first | simp -dsimp (disch := first | omega | assumption | (refine OkS.sto ?_ (by omega); first | assumption | (refine OkS.sto ?_ (by omega); first | assumption | (refine OkS.sto ?_ (by omega); first | assumption | (refine OkS.sto ?_ (by omega); first | assumption | (refine OkS.sto ?_ (by omega); first | assumption | (refine OkS.sto ?_ (by omega); first | assumption)))))) | exact Pfx.refl _ | (apply Pfx.snoc; repeat (first | exact Pfx.refl _ | assumption | apply Pfx.snoc)) | with_unfolding_all exact of_eq_true (eq_true rfl) | (simp only [List.length_append, List.length_cons, List.length_nil]; omega)) only [↓wpre0, ↓wpre1, ↓reduceIte, Int.reduceToNat, Nat.reduceAdd, Nat.reduceMul, Nat.reduceEqDiff, wpost0, wpost1, wpost2, wpost3, wpost4, ite_self, ite_true, ite_false, if_true, if_false, un_not, bin_quo, bin_mul, un_neg, bin_leq, xbld62_0_1, tze62, xst62, xld62, xcv29_59, bin_fadd, bin_add, xcv59_29, fr37, wrap_int, wrap_u8, iteP_yes, iteP_no, g0, g1, g2, g9, g10, g11, g12, g13] | refine iteP_two (fun hc hd => ?_) (fun hc hd => ?_) | refine iteP_intro (fun hc => ?_) (fun hc => ?_))
            have ec : colI (skP f l n) step m (0, 0) (j + 1) = rowI (skP f l n) step m ((J : Int) - M) (colI (skP f l n) step m (0, 0) j) i := by rw [hJ, hM, ei]; rfl
            rw [ec]
            (repeat' (first | assumption | rfl | omega | refine And.intro ?_ ?_))
      · rintro e h2 ⟨hp2, g0, g1, g2, g9, g10, g11, g12⟩
        (repeat' first | simp -dsimp (disch := first | omega | assumption | (refine OkS.sto ?_ (by omega); first | assumption | (refine OkS.sto ?_ (by omega); first | assumption | (refine OkS.sto ?_ (by omega); first | assumption | (refine OkS.sto ?_ (by omega); first | assumption | (refine OkS.sto ?_ (by omega); first | assumption | (refine OkS.sto ?_ (by omega); first | assumption)))))) | exact Pfx.refl _ | (apply Pfx.snoc; repeat (first | exact Pfx.refl _ | assumption | apply Pfx.snoc)) | with_unfolding_all exact of_eq_true (eq_true rfl) | (simp only [List.length_append, List.length_cons, List.length_nil]; omega)) only [↓wpre0, ↓wpre1, ↓reduceIte, Int.reduceToNat, Nat.reduceAdd, Nat.reduceMul, Nat.reduceEqDiff, wpost0, wpost1, wpost2, wpost3, wpost4, ite_self, ite_true, ite_false, if_true, if_false, un_not, bin_quo, bin_mul, un_neg, bin_leq, xbld62_0_1, tze62, xst62, xld62, xcv29_59, bin_fadd, bin_add, xcv59_29, fr37, wrap_int, wrap_u8, iteP_yes, iteP_no, g0, g1, g2, g9, g10, g11, g12] | refine iteP_two (fun hc hd => ?_) (fun hc hd => ?_) | refine iteP_intro (fun hc => ?_) (fun hc => ?_))
        refine ⟨2 * m + 1 - (j + 1), by omega, j + 1, J + step, rfl, ?_⟩
        (repeat' (first | assumption | rfl | omega | (congr 1; omega) | refine And.intro ?_ ?_))
    · have ej : j = 2 * m + 1 := by omega
      have hJ2 : J = 2 * M + step := by rw [hJ, ej, Nat.succ_mul, Nat.mul_assoc, ← hM]
      have ef : endH (.tuple ⟨[.float .f32 (nr (skT f l n step m).1), .int .i64 ((skT f l n step m).2 : Nat), .bool true]⟩) h h' = h := endH_flat rfl hp
      rw [ej] at g9 g10
      (repeat' first | simp -dsimp (disch := first | omega | assumption | (refine OkS.sto ?_ (by omega); first | assumption | (refine OkS.sto ?_ (by omega); first | assumption | (refine OkS.sto ?_ (by omega); first | assumption | (refine OkS.sto ?_ (by omega); first | assumption | (refine OkS.sto ?_ (by omega); first | assumption | (refine OkS.sto ?_ (by omega); first | assumption)))))) | exact Pfx.refl _ | (apply Pfx.snoc; repeat (first | exact Pfx.refl _ | assumption | apply Pfx.snoc)) | with_unfolding_all exact of_eq_true (eq_true rfl) | (simp only [List.length_append, List.length_cons, List.length_nil]; omega)) only [↓wpre0, ↓wpre1, ↓reduceIte, Int.reduceToNat, Nat.reduceAdd, Nat.reduceMul, Nat.reduceEqDiff, wpost0, wpost1, wpost2, wpost3, wpost4, ite_self, ite_true, ite_false, if_true, if_false, un_not, bin_quo, bin_mul, un_neg, bin_leq, xbld62_0_1, tze62, xst62, xld62, xcv29_59, bin_fadd, bin_add, xcv59_29, fr37, wrap_int, wrap_u8, iteP_yes, iteP_no, g0, g1, g2, g9, g10, g11, g12, cv_n okT] | refine iteP_two (fun hc hd => ?_) (fun hc hd => ?_) | refine iteP_intro (fun hc => ?_) (fun hc => ?_))
      rfl
end Go.Proofs.Ytelogajobjflfaa.Sim

/- Places and numbers in sixteenths as a law draws them; whether numbers are the same. Lemmas only; no condition. -/
set_option linter.unusedSimpArgs false
set_option linter.unusedVariables false
set_option maxRecDepth 8000
namespace Go.Proofs.Ytelogajobjflfaa.Sim
open Go Go.RowKit Fl
variable {ro lo hi n : Nat} {X X' : Ext} {h : Heap} {x y : Value} {l : List Int} {cd : List UInt8}
set_option maxHeartbeats 4000000 in
theorem Fine_c (hW : XDW X) (hX : XN X) (hV : VS lo hi 1 h x cd.length (cd.map u8v)) (hhi : hi ≤ h.length) (hl : cd.length ≤ 1099511627776) (hro : ro ≤ h.length) (hn : n ≤ 1024) :
    CallR Try.prog ro X 36 [x, .int .i64 n] h (fun r h' => ∃ z : Nat → CB, (∀ i, bdC 150 (z i)) ∧ Pfx h h' ∧ RowB h.length h' r n z) := by
  refine callR_of (hX _ rfl) Try.func36 rfl (by kernel_rfl) (Nat.le_of_ble_eq_true rfl) ?_
  (repeat' first | simp -dsimp (disch := first | omega | assumption | (refine OkS.sto ?_ (by omega); first | assumption | (refine OkS.sto ?_ (by omega); first | assumption | (refine OkS.sto ?_ (by omega); first | assumption | (refine OkS.sto ?_ (by omega); first | assumption | (refine OkS.sto ?_ (by omega); first | assumption | (refine OkS.sto ?_ (by omega); first | assumption)))))) | exact Pfx.refl _ | (apply Pfx.snoc; repeat (first | exact Pfx.refl _ | assumption | apply Pfx.snoc)) | with_unfolding_all exact of_eq_true (eq_true rfl) | (simp only [List.length_append, List.length_cons, List.length_nil]; omega)) only [↓wpre0, ↓wpre1, ↓reduceIte, Int.reduceToNat, Nat.reduceAdd, Nat.reduceMul, Nat.reduceEqDiff, wpost0, wpost1, wpost2, wpost3, wpost4, ite_self, ite_true, ite_false, if_true, if_false, xbls44_0, xbls44_1, bin_gtr, bin_sub, fr36, wrap_int, wrap_u8, iteP_yes, iteP_no] | refine iteP_two (fun hc hd => ?_) (fun hc hd => ?_) | refine iteP_intro (fun hc => ?_) (fun hc => ?_))
  refine cf_rel (From_c (hX _ rfl) hV hro) (fun q => by cases q) ?_
  rintro r H1 ⟨rfl, p1, l1, S1⟩
  (repeat' first | simp -dsimp (disch := first | omega | assumption | (refine OkS.sto ?_ (by omega); first | assumption | (refine OkS.sto ?_ (by omega); first | assumption | (refine OkS.sto ?_ (by omega); first | assumption | (refine OkS.sto ?_ (by omega); first | assumption | (refine OkS.sto ?_ (by omega); first | assumption | (refine OkS.sto ?_ (by omega); first | assumption)))))) | exact Pfx.refl _ | (apply Pfx.snoc; repeat (first | exact Pfx.refl _ | assumption | apply Pfx.snoc)) | with_unfolding_all exact of_eq_true (eq_true rfl) | (simp only [List.length_append, List.length_cons, List.length_nil]; omega)) only [↓wpre0, ↓wpre1, ↓reduceIte, Int.reduceToNat, Nat.reduceAdd, Nat.reduceMul, Nat.reduceEqDiff, wpost0, wpost1, wpost2, wpost3, wpost4, ite_self, ite_true, ite_false, if_true, if_false, xbls44_0, xbls44_1, bin_gtr, bin_sub, fr36, wrap_int, wrap_u8, iteP_yes, iteP_no] | refine iteP_two (fun hc hd => ?_) (fun hc hd => ?_) | refine iteP_intro (fun hc => ?_) (fun hc => ?_))
  have p2 : Pfx H1 (H1 ++ [(⟨46, []⟩ : Blk)]) := (Pfx.refl H1).snoc
  refine loop_rounds (fun m e h' => ∃ (y : Value) (Z : List CB), m = n - Z.length ∧ Z.length ≤ n ∧ (∀ z ∈ Z, bdC 150 z) ∧ e 1 = .int .i64 ((n - Z.length : Nat) : Int) ∧ e 5 = .pointer (some ⟨h.length, 0, none⟩) ∧ e 6 = y ∧ VG H1.length 46 1 h' y Z.length (rowV Z.length (cat Z)) ∧ SRC lo hi h.length (Z.length * 4) x cd h' ∧ Pfx h h' ∧ h.length < h'.length) _ ⟨.slice (some ⟨H1.length, 0, none⟩) 0 0, [], rfl, ?_⟩ ?_
  · simp only [updO_at, updO_not, entry_at, List.getD_cons_zero, List.getD_cons_succ, ↓reduceIte, Nat.reduceEqDiff, true_and, and_true]
    have V2 : VG H1.length 46 1 (H1 ++ [(⟨46, []⟩ : Blk)]) (.slice (some ⟨H1.length, 0, none⟩) 0 0) 0 (rowV 0 (cat [])) := vg_new H1 (Nat.le_refl _)
    have S2 := (S1.pre p2).more (A' := 0 * 4) (by omega)
    have pA := p1.trans p2
    have lA : h.length < (H1 ++ [(⟨46, []⟩ : Blk)]).length := by simp; omega
    (repeat' (first | assumption | rfl | omega | exact V2 | exact S2 | exact pA | exact lA | exact Nat.zero_le _ | (intro a ha; cases ha) | refine And.intro ?_ ?_))
  · rintro m e h' ⟨y, Z, hm, hle, hz, g1, g5, g6, hY, hS, hd, hlh⟩
    have hb := hY.bof
    by_cases hin : Z.length < n
    · (repeat' first | simp -dsimp (disch := first | omega | assumption | (refine OkS.sto ?_ (by omega); first | assumption | (refine OkS.sto ?_ (by omega); first | assumption | (refine OkS.sto ?_ (by omega); first | assumption | (refine OkS.sto ?_ (by omega); first | assumption | (refine OkS.sto ?_ (by omega); first | assumption | (refine OkS.sto ?_ (by omega); first | assumption)))))) | exact Pfx.refl _ | (apply Pfx.snoc; repeat (first | exact Pfx.refl _ | assumption | apply Pfx.snoc)) | with_unfolding_all exact of_eq_true (eq_true rfl) | (simp only [List.length_append, List.length_cons, List.length_nil]; omega)) only [↓wpre0, ↓wpre1, ↓reduceIte, Int.reduceToNat, Nat.reduceAdd, Nat.reduceMul, Nat.reduceEqDiff, wpost0, wpost1, wpost2, wpost3, wpost4, ite_self, ite_true, ite_false, if_true, if_false, xbls44_0, xbls44_1, bin_gtr, bin_sub, fr36, wrap_int, wrap_u8, iteP_yes, iteP_no, g1, g5, g6] | refine iteP_two (fun hc hd => ?_) (fun hc hd => ?_) | refine iteP_intro (fun hc => ?_) (fun hc => ?_))
      refine cf_rel (DrawFineB_c hW hS (by omega) (by omega) (by omega) hl) (fun q => by cases q) ?_
      rintro r H5 ⟨w, rfl, hw, S5, o6⟩
      have l5 := o6.1
      have hY5 : VG H1.length 46 1 H5 y Z.length (rowV Z.length (cat Z)) := hY.frame (o6.2 _ (by omega))
      obtain ⟨H, ap, vg, old, hlen⟩ := acc1 (P := Try.prog) (ro := ro) (T := 44) (h := H5) (v := toV w) tel44 tsz46 tby46 tze46 (.inl hY5) (by omega) (by omega) rfl (by omega) (by omega)
      have vg' : VG H1.length 46 1 H (.slice (some ⟨H5.length + 1, 0, none⟩) (Z.length + 1) (Z.length + 1 + 1)) (Z ++ [w]).length (rowV (Z ++ [w]).length (cat (Z ++ [w]))) := by
        rw [List.length_append, List.length_singleton, rowC_snoc]; exact vg
      have d5 := pfx_onl hd o6 (Nat.le_refl _)
      have dH := old.1 h d5 (by omega)
      have sv : SRC lo hi h.length ((Z ++ [w]).length * 4) x cd H := ((S5.frame (old.2.1 _ (by omega) (.inr (by omega))) fun j h1 h2 => old.2.1 j (by omega) (.inr (by omega)))).more (by simp; omega)
      have hcast : ((n - Z.length : Nat) : Int) - 1 = ((n - (Z ++ [w]).length : Nat) : Int) := by simp; omega
      simp only [toV] at ap
      (repeat' first | simp -dsimp (disch := first | omega | assumption | (refine OkS.sto ?_ (by omega); first | assumption | (refine OkS.sto ?_ (by omega); first | assumption | (refine OkS.sto ?_ (by omega); first | assumption | (refine OkS.sto ?_ (by omega); first | assumption | (refine OkS.sto ?_ (by omega); first | assumption | (refine OkS.sto ?_ (by omega); first | assumption)))))) | exact Pfx.refl _ | (apply Pfx.snoc; repeat (first | exact Pfx.refl _ | assumption | apply Pfx.snoc)) | with_unfolding_all exact of_eq_true (eq_true rfl) | (simp only [List.length_append, List.length_cons, List.length_nil]; omega)) only [↓wpre0, ↓wpre1, ↓reduceIte, Int.reduceToNat, Nat.reduceAdd, Nat.reduceMul, Nat.reduceEqDiff, wpost0, wpost1, wpost2, wpost3, wpost4, ite_self, ite_true, ite_false, if_true, if_false, xbls44_0, xbls44_1, bin_gtr, bin_sub, fr36, wrap_int, wrap_u8, iteP_yes, iteP_no, g1, g5, g6, ap] | refine iteP_two (fun hc hd => ?_) (fun hc hd => ?_) | refine iteP_intro (fun hc => ?_) (fun hc => ?_))
      refine ⟨n - (Z ++ [w]).length, by simp; omega, .slice (some ⟨H5.length + 1, 0, none⟩) (Z.length + 1) (Z.length + 1 + 1), Z ++ [w], ?_⟩
      have hz' : ∀ z ∈ Z ++ [w], bdC 150 z := by
        intro z hz'
        rcases List.mem_append.1 hz' with q | q
        · exact hz z q
        · rw [List.mem_singleton] at q; subst q; exact hw
      have hll : (Z ++ [w]).length ≤ n := by simp; omega
      have hlh' : h.length < H.length := by omega
      (repeat' (first | assumption | rfl | omega | (rw [hcast]) | refine And.intro ?_ ?_))
    · have ei : n = Z.length := by omega
      have hnf : Sim.flat y = false := by obtain ⟨_, b, cap, rfl, _⟩ := hY; rfl
      (repeat' first | simp -dsimp (disch := first | omega | assumption | (refine OkS.sto ?_ (by omega); first | assumption | (refine OkS.sto ?_ (by omega); first | assumption | (refine OkS.sto ?_ (by omega); first | assumption | (refine OkS.sto ?_ (by omega); first | assumption | (refine OkS.sto ?_ (by omega); first | assumption | (refine OkS.sto ?_ (by omega); first | assumption)))))) | exact Pfx.refl _ | (apply Pfx.snoc; repeat (first | exact Pfx.refl _ | assumption | apply Pfx.snoc)) | with_unfolding_all exact of_eq_true (eq_true rfl) | (simp only [List.length_append, List.length_cons, List.length_nil]; omega)) only [↓wpre0, ↓wpre1, ↓reduceIte, Int.reduceToNat, Nat.reduceAdd, Nat.reduceMul, Nat.reduceEqDiff, wpost0, wpost1, wpost2, wpost3, wpost4, ite_self, ite_true, ite_false, if_true, if_false, xbls44_0, xbls44_1, bin_gtr, bin_sub, fr36, wrap_int, wrap_u8, iteP_yes, iteP_no, g1, g5, g6, endH_not hnf] | refine iteP_two (fun hc hd => ?_) (fun hc hd => ?_) | refine iteP_intro (fun hc => ?_) (fun hc => ?_))
      refine ⟨cat Z, cat_bd hz, hd, ?_⟩
      rw [ei]
      exact (hY.low (show h.length ≤ H1.length by omega)).vsl
theorem TenP_c (hW : XDW X) (hX : XN X) (hX' : XN X') (hx : X' 127 = xPl ro X 127) (hV : VS lo hi 1 h x n (cd.map u8v)) (hro : ro ≤ h.length) (hhi : hi ≤ h.length) (hl : cd.length ≤ 1099511627776) :
    CallR Try.prog ro X' 35 [x] h (fun r h' => Places h r h') := by
  refine callR_of (hX' _ rfl) Try.func35 rfl (by kernel_rfl) (Nat.le_of_ble_eq_true rfl) ?_
  (repeat' first | simp -dsimp (disch := first | omega | assumption | (refine OkS.sto ?_ (by omega); first | assumption | (refine OkS.sto ?_ (by omega); first | assumption | (refine OkS.sto ?_ (by omega); first | assumption | (refine OkS.sto ?_ (by omega); first | assumption | (refine OkS.sto ?_ (by omega); first | assumption | (refine OkS.sto ?_ (by omega); first | assumption)))))) | exact Pfx.refl _ | (apply Pfx.snoc; repeat (first | exact Pfx.refl _ | assumption | apply Pfx.snoc)) | with_unfolding_all exact of_eq_true (eq_true rfl) | (simp only [List.length_append, List.length_cons, List.length_nil]; omega)) only [↓wpre0, ↓wpre1, ↓reduceIte, Int.reduceToNat, Nat.reduceAdd, Nat.reduceMul, Nat.reduceEqDiff, wpost0, wpost1, wpost2, wpost3, wpost4, ite_self, ite_true, ite_false, if_true, if_false, un_not, xbld126, xbld126_0, xbls54_0, xbls54_1, fr35, wrap_int, wrap_u8, iteP_yes, iteP_no] | refine iteP_two (fun hc hd => ?_) (fun hc hd => ?_) | refine iteP_intro (fun hc => ?_) (fun hc => ?_))
  refine cf_rel (From_c (hX' _ rfl) hV hro) (fun q => by cases q) ?_
  rintro r H1 ⟨rfl, p1, l1, S1⟩
  (repeat' first | simp -dsimp (disch := first | omega | assumption | (refine OkS.sto ?_ (by omega); first | assumption | (refine OkS.sto ?_ (by omega); first | assumption | (refine OkS.sto ?_ (by omega); first | assumption | (refine OkS.sto ?_ (by omega); first | assumption | (refine OkS.sto ?_ (by omega); first | assumption | (refine OkS.sto ?_ (by omega); first | assumption)))))) | exact Pfx.refl _ | (apply Pfx.snoc; repeat (first | exact Pfx.refl _ | assumption | apply Pfx.snoc)) | with_unfolding_all exact of_eq_true (eq_true rfl) | (simp only [List.length_append, List.length_cons, List.length_nil]; omega)) only [↓wpre0, ↓wpre1, ↓reduceIte, Int.reduceToNat, Nat.reduceAdd, Nat.reduceMul, Nat.reduceEqDiff, wpost0, wpost1, wpost2, wpost3, wpost4, ite_self, ite_true, ite_false, if_true, if_false, un_not, xbld126, xbld126_0, xbls54_0, xbls54_1, fr35, wrap_int, wrap_u8, iteP_yes, iteP_no] | refine iteP_two (fun hc hd => ?_) (fun hc hd => ?_) | refine iteP_intro (fun hc => ?_) (fun hc => ?_))
  refine cf_rel (DrawOk_c hW hX hx S1 hro hhi (by omega) hl) (fun q => by cases q) ?_
  rintro r H2 ⟨n, yb, yc, l, rfl, hyb, hD, hll, hg, hr, d2, S2⟩
  have hnf : ∀ a m c, Sim.flat (.slice a m c) = false := fun a m c => rfl
  have hI := is_blk (dc := yc) hD hll
  have h16 := hg.n16
  (repeat' first | simp -dsimp (disch := first | omega | assumption | (refine OkS.sto ?_ (by omega); first | assumption | (refine OkS.sto ?_ (by omega); first | assumption | (refine OkS.sto ?_ (by omega); first | assumption | (refine OkS.sto ?_ (by omega); first | assumption | (refine OkS.sto ?_ (by omega); first | assumption | (refine OkS.sto ?_ (by omega); first | assumption)))))) | exact Pfx.refl _ | (apply Pfx.snoc; repeat (first | exact Pfx.refl _ | assumption | apply Pfx.snoc)) | with_unfolding_all exact of_eq_true (eq_true rfl) | (simp only [List.length_append, List.length_cons, List.length_nil]; omega)) only [↓wpre0, ↓wpre1, ↓reduceIte, Int.reduceToNat, Nat.reduceAdd, Nat.reduceMul, Nat.reduceEqDiff, wpost0, wpost1, wpost2, wpost3, wpost4, ite_self, ite_true, ite_false, if_true, if_false, un_not, xbld126, xbld126_0, xbls54_0, xbls54_1, fr35, wrap_int, wrap_u8, iteP_yes, iteP_no] | refine iteP_two (fun hc hd => ?_) (fun hc hd => ?_) | refine iteP_intro (fun hc => ?_) (fun hc => ?_))
  refine cf_rel (l02Is_c hX' hI (by omega)) (fun q => by cases q) ?_
  rintro r H3 ⟨b, rfl, rfl, hb⟩
  have hbt : b = true := hb.2 hg
  subst hbt
  (repeat' first | simp -dsimp (disch := first | omega | assumption | (refine OkS.sto ?_ (by omega); first | assumption | (refine OkS.sto ?_ (by omega); first | assumption | (refine OkS.sto ?_ (by omega); first | assumption | (refine OkS.sto ?_ (by omega); first | assumption | (refine OkS.sto ?_ (by omega); first | assumption | (refine OkS.sto ?_ (by omega); first | assumption)))))) | exact Pfx.refl _ | (apply Pfx.snoc; repeat (first | exact Pfx.refl _ | assumption | apply Pfx.snoc)) | with_unfolding_all exact of_eq_true (eq_true rfl) | (simp only [List.length_append, List.length_cons, List.length_nil]; omega)) only [↓wpre0, ↓wpre1, ↓reduceIte, Int.reduceToNat, Nat.reduceAdd, Nat.reduceMul, Nat.reduceEqDiff, wpost0, wpost1, wpost2, wpost3, wpost4, ite_self, ite_true, ite_false, if_true, if_false, un_not, xbld126, xbld126_0, xbls54_0, xbls54_1, fr35, wrap_int, wrap_u8, iteP_yes, iteP_no, endH_not (hnf _ _ _)] | refine iteP_two (fun hc hd => ?_) (fun hc hd => ?_) | refine iteP_intro (fun hc => ?_) (fun hc => ?_))
  exact ⟨n, yb, yc, l, rfl, by omega, hD, hll, hg, hr, Dst.pfx p1 d2 (Nat.le_refl _)⟩
theorem bitsS_r (hX : XN X) (hB : X 256 = some (ext1 fBits)) {b : Nat} (hn : (FloatKind.f32.decode b).isNaN = false) (h : Heap) : ∃ z, Ret Try.prog ro X 199 [.float .f32 b] h (.int .i64 z) := by
  have hc : Ret Try.prog ro X 256 [.float .f32 b] h (.int .u32 b) := fun _ _ => cf_eq (call_ext hB (by simp only [ext1, fBits, hn, Bool.false_eq_true, if_false, Option.map_some]))
  have e1 : fcmp .eql .f32 b b = true := by rw [order_self, hn]; rfl
  have : CallR Try.prog ro X 199 [.float .f32 b] h (fun r h' => (∃ t, r = .int .i64 t) ∧ h' = h) := by
    refine callR_of (hX _ rfl) Try.func199 rfl (by kernel_rfl) (Nat.le_of_ble_eq_true rfl) ?_
    (repeat' first | simp -dsimp (disch := first | omega | assumption | (refine OkS.sto ?_ (by omega); first | assumption | (refine OkS.sto ?_ (by omega); first | assumption | (refine OkS.sto ?_ (by omega); first | assumption | (refine OkS.sto ?_ (by omega); first | assumption | (refine OkS.sto ?_ (by omega); first | assumption | (refine OkS.sto ?_ (by omega); first | assumption)))))) | exact Pfx.refl _ | (apply Pfx.snoc; repeat (first | exact Pfx.refl _ | assumption | apply Pfx.snoc)) | with_unfolding_all exact of_eq_true (eq_true rfl) | (simp only [List.length_append, List.length_cons, List.length_nil]; omega)) only [↓wpre0, ↓wpre1, ↓reduceIte, Int.reduceToNat, Nat.reduceAdd, Nat.reduceMul, Nat.reduceEqDiff, wpost0, wpost1, wpost2, wpost3, wpost4, ite_self, ite_true, ite_false, if_true, if_false, bin_fneq, xcv208_2, fr199, wrap_int, wrap_u8, iteP_yes, iteP_no, hc, e1] | refine iteP_two (fun hc hd => ?_) (fun hc hd => ?_) | refine iteP_intro (fun hc => ?_) (fun hc => ?_))
    all_goals exact ⟨_, rfl⟩
  obtain ⟨r, h', h1, ⟨t, rfl⟩, rfl⟩ := this
  exact ⟨t, fun _ _ => cf_eq h1⟩
theorem SameS_r (hX : XN X) (hB : X 256 = some (ext1 fBits)) {b : Nat} (hn : (FloatKind.f32.decode b).isNaN = false) (h : Heap) : Ret Try.prog ro X 39 [.float .f32 b, .float .f32 b] h (.bool true) := by
  obtain ⟨t, ht⟩ := bitsS_r (ro := ro) hX hB hn h
  have key : Ret Try.prog ro X 133 [.float .f32 b, .float .f32 b] h (.bool true) := by
    refine ret_of (callR_of (hX _ rfl) Try.func133 rfl (by kernel_rfl) (Nat.le_of_ble_eq_true rfl) ?_)
    (repeat' first | simp -dsimp (disch := first | omega | assumption | (refine OkS.sto ?_ (by omega); first | assumption | (refine OkS.sto ?_ (by omega); first | assumption | (refine OkS.sto ?_ (by omega); first | assumption | (refine OkS.sto ?_ (by omega); first | assumption | (refine OkS.sto ?_ (by omega); first | assumption | (refine OkS.sto ?_ (by omega); first | assumption)))))) | exact Pfx.refl _ | (apply Pfx.snoc; repeat (first | exact Pfx.refl _ | assumption | apply Pfx.snoc)) | with_unfolding_all exact of_eq_true (eq_true rfl) | (simp only [List.length_append, List.length_cons, List.length_nil]; omega)) only [↓wpre0, ↓wpre1, ↓reduceIte, Int.reduceToNat, Nat.reduceAdd, Nat.reduceMul, Nat.reduceEqDiff, wpost0, wpost1, wpost2, wpost3, wpost4, ite_self, ite_true, ite_false, if_true, if_false, bin_eql, fr133, wrap_int, wrap_u8, iteP_yes, iteP_no, ht] | refine iteP_two (fun hc hd => ?_) (fun hc hd => ?_) | refine iteP_intro (fun hc => ?_) (fun hc => ?_))
    all_goals first | rfl | simp
  refine ret_of (callR_of (hX _ rfl) Try.func39 rfl (by kernel_rfl) (Nat.le_of_ble_eq_true rfl) ?_)
  (repeat' first | simp -dsimp (disch := first | omega | assumption | (refine OkS.sto ?_ (by omega); first | assumption | (refine OkS.sto ?_ (by omega); first | assumption | (refine OkS.sto ?_ (by omega); first | assumption | (refine OkS.sto ?_ (by omega); first | assumption | (refine OkS.sto ?_ (by omega); first | assumption | (refine OkS.sto ?_ (by omega); first | assumption)))))) | exact Pfx.refl _ | (apply Pfx.snoc; repeat (first | exact Pfx.refl _ | assumption | apply Pfx.snoc)) | with_unfolding_all exact of_eq_true (eq_true rfl) | (simp only [List.length_append, List.length_cons, List.length_nil]; omega)) only [↓wpre0, ↓wpre1, ↓reduceIte, Int.reduceToNat, Nat.reduceAdd, Nat.reduceMul, Nat.reduceEqDiff, wpost0, wpost1, wpost2, wpost3, wpost4, ite_self, ite_true, ite_false, if_true, if_false, fr39, wrap_int, wrap_u8, iteP_yes, iteP_no, key] | refine iteP_two (fun hc hd => ?_) (fun hc hd => ?_) | refine iteP_intro (fun hc => ?_) (fun hc => ?_))
end Go.Proofs.Ytelogajobjflfaa.Sim

/- The law FnSky. Lemmas only; no condition. -/
set_option linter.unusedSimpArgs false
set_option linter.unusedVariables false
set_option maxRecDepth 8000
namespace Go.Proofs.Ytelogajobjflfaa.Sim
open Go Go.RowKit Fl
variable {ro lo lo' hi hi' n : Nat} {X : Ext} {h : Heap} {x y : Value} {l : List Int} {f : Nat → CB} {u v : Int}
theorem XN.orS {A B : Ext} (a : XN A) (b : XN B) : XN (orX A B) := fun f hf => by unfold orX; rw [a f hf]; exact b f hf
theorem XN.onlyS {n : Nat} {F : Option (List Value → Heap → Option (Value × Heap))} (hn : noBody.contains n = true) : XN fun g => if g = n then F else none := fun f hf => by
  show (if f = n then F else none) = none
  rw [if_neg]
  intro e
  rw [e, hn] at hf
  cases hf
noncomputable def xS0 : Ext := orX (soloX 239 gBits) (orX (soloX 238 gFrom) extB)
noncomputable def xS1 (ro : Nat) : Ext := orX (xPl ro xS0) xS0
theorem xn_S0 : XN xS0 := XN.orS (XN.onlyS (by decide +kernel)) (XN.orS (XN.onlyS (by decide +kernel)) extB_n)
theorem xn_S1 (ro : Nat) : XN (xS1 ro) := XN.orS (XN.onlyS (by decide +kernel)) xn_S0
theorem xok_S0 {ro : Nat} {B : Base} : XOk Try.prog ro B xS0 := orX_ok xBits_ok (orX_ok xFrom_ok extB_ok)
theorem xok_S1 {ro : Nat} {B : Base} : XOk Try.prog ro B (xS1 ro) := orX_ok (xPl_ok xok_S0) xok_S0
theorem XDW.of (hX : XN X) (hF : X 259 = some (ext1 fFrom)) : XDW X := ⟨hX _ rfl, hX _ rfl, hX _ rfl, hX _ rfl, hX _ rfl, hX _ rfl, hX _ rfl, hX _ rfl, hX _ rfl, hX _ rfl, hF⟩
theorem skP_cnt (a : Nat × Nat) : (skP f l n u v a).2 ≤ a.2 + 1 := by
  unfold skP
  split
  · exact Nat.le_refl _
  · exact Nat.le_succ _
theorem rowL_cnt {step : Nat} {a : Nat × Nat} : ∀ t, (rowL (skP f l n) step v a t).2 ≤ a.2 + t
  | 0 => Nat.le_refl _
  | t + 1 => by
    have ih := rowL_cnt (step := step) (a := a) t
    unfold rowL
    split
    · exact Nat.le_trans (skP_cnt _) (Nat.succ_le_succ ih)
    · exact Nat.le_succ_of_le ih
theorem colL_cnt {step : Nat} : ∀ t, (colL (skP f l n) step (0, 0) t).2 ≤ t * 129
  | 0 => Nat.zero_le _
  | t + 1 => by
    have ih := colL_cnt (step := step) t
    unfold colL
    split
    · have := rowL_cnt (f := f) (l := l) (n := n) (v := (t : Int) - 64) (step := step) (a := colL (skP f l n) step (0, 0) t) 129
      omega
    · omega
set_option maxHeartbeats 16000000 in
theorem lawSky_c (hX : XN X) (hX0 : XN xS0) (hW : XDW xS0) (hA : XAbs X) (hB : X 256 = some (ext1 fBits)) (hx : X 127 = xPl ro xS0 127) (hW2 : XDW X) {cd md : List UInt8} (hV : VS lo hi 1 h x cd.length (cd.map u8v)) (hU : VS lo' hi' 1 h y md.length (md.map u8v)) (hhi : hi ≤ h.length) (hhi' : hi' ≤ h.length) (hro : ro ≤ h.length) (hl : cd.length ≤ 140737488351232) (hl' : md.length ≤ 140737488351232) :
    CallR Try.prog ro X 5 [x, y] h (fun r h' => r = .bool true) := by
  refine callR_of (hX _ rfl) Try.func5 rfl (by kernel_rfl) (Nat.le_of_ble_eq_true rfl) ?_
  by_cases hlong : (decide (1048576 < cd.length) || decide (1048576 < md.length)) = true
  · (repeat' first | simp -dsimp (disch := first | omega | assumption | (refine OkS.sto ?_ (by omega); first | assumption | (refine OkS.sto ?_ (by omega); first | assumption | (refine OkS.sto ?_ (by omega); first | assumption | (refine OkS.sto ?_ (by omega); first | assumption | (refine OkS.sto ?_ (by omega); first | assumption | (refine OkS.sto ?_ (by omega); first | assumption)))))) | exact Pfx.refl _ | (apply Pfx.snoc; repeat (first | exact Pfx.refl _ | assumption | apply Pfx.snoc)) | with_unfolding_all exact of_eq_true (eq_true rfl) | (simp only [List.length_append, List.length_cons, List.length_nil]; omega)) only [↓wpre0, ↓wpre1, ↓reduceIte, Int.reduceToNat, Nat.reduceAdd, Nat.reduceMul, Nat.reduceEqDiff, wpost0, wpost1, wpost2, wpost3, wpost4, ite_self, ite_true, ite_false, if_true, if_false, xlen54, bin_add, un_not, bin_leq, bin_rem, bin_neq, bin_mul, bin_gtr, xbld62_0_1, xcv29_59, bin_fadd, bin_eql, xcv59_29, fr5, wrap_int, wrap_u8, iteP_yes, iteP_no, long_r (hX _ rfl) hV hU (by omega) (by omega), hlong] | refine iteP_two (fun hc hd => ?_) (fun hc hd => ?_) | refine iteP_intro (fun hc => ?_) (fun hc => ?_))
  have hlong' : (decide (1048576 < cd.length) || decide (1048576 < md.length)) = false := by simpa using hlong
  have hc1 : cd.length ≤ 1048576 := by simp at hlong'; omega
  have hm1 : md.length ≤ 1048576 := by simp at hlong'; omega
  (repeat' first | simp -dsimp (disch := first | omega | assumption | (refine OkS.sto ?_ (by omega); first | assumption | (refine OkS.sto ?_ (by omega); first | assumption | (refine OkS.sto ?_ (by omega); first | assumption | (refine OkS.sto ?_ (by omega); first | assumption | (refine OkS.sto ?_ (by omega); first | assumption | (refine OkS.sto ?_ (by omega); first | assumption)))))) | exact Pfx.refl _ | (apply Pfx.snoc; repeat (first | exact Pfx.refl _ | assumption | apply Pfx.snoc)) | with_unfolding_all exact of_eq_true (eq_true rfl) | (simp only [List.length_append, List.length_cons, List.length_nil]; omega)) only [↓wpre0, ↓wpre1, ↓reduceIte, Int.reduceToNat, Nat.reduceAdd, Nat.reduceMul, Nat.reduceEqDiff, wpost0, wpost1, wpost2, wpost3, wpost4, ite_self, ite_true, ite_false, if_true, if_false, xlen54, bin_add, un_not, bin_leq, bin_rem, bin_neq, bin_mul, bin_gtr, xbld62_0_1, xcv29_59, bin_fadd, bin_eql, xcv59_29, fr5, wrap_int, wrap_u8, iteP_yes, iteP_no, long_r (hX _ rfl) hV hU (by omega) (by omega), hlong'] | refine iteP_two (fun hc hd => ?_) (fun hc hd => ?_) | refine iteP_intro (fun hc => ?_) (fun hc => ?_))
  refine cf_rel (TenP_c hW hX0 hX hx hV hro hhi (by omega)) (fun q => by cases q) ?_
  rintro r H1 ⟨n, yb, yc, l, rfl, hyb, hD, hll, hg, hr, p1⟩
  have hI := is_blk (dc := yc) hD hll
  have l1 := p1.len
  have n16 := hg.n16
  have n1 := hg.n1
  have hU1 := hU.pre p1
  have hyb1 : yb < H1.length := by
    rcases Nat.lt_or_ge yb H1.length with q | q
    · exact q
    · rw [List.getElem?_eq_none q] at hD; cases hD
  (repeat' first | simp -dsimp (disch := first | omega | assumption | (refine OkS.sto ?_ (by omega); first | assumption | (refine OkS.sto ?_ (by omega); first | assumption | (refine OkS.sto ?_ (by omega); first | assumption | (refine OkS.sto ?_ (by omega); first | assumption | (refine OkS.sto ?_ (by omega); first | assumption | (refine OkS.sto ?_ (by omega); first | assumption)))))) | exact Pfx.refl _ | (apply Pfx.snoc; repeat (first | exact Pfx.refl _ | assumption | apply Pfx.snoc)) | with_unfolding_all exact of_eq_true (eq_true rfl) | (simp only [List.length_append, List.length_cons, List.length_nil]; omega)) only [↓wpre0, ↓wpre1, ↓reduceIte, Int.reduceToNat, Nat.reduceAdd, Nat.reduceMul, Nat.reduceEqDiff, wpost0, wpost1, wpost2, wpost3, wpost4, ite_self, ite_true, ite_false, if_true, if_false, xlen54, bin_add, un_not, bin_leq, bin_rem, bin_neq, bin_mul, bin_gtr, xbld62_0_1, xcv29_59, bin_fadd, bin_eql, xcv59_29, fr5, wrap_int, wrap_u8, iteP_yes, iteP_no, hI.len Try.underlying54] | refine iteP_two (fun hc hd => ?_) (fun hc hd => ?_) | refine iteP_intro (fun hc => ?_) (fun hc => ?_))
  refine cf_rel (Fine_c hW2 hX hU1 (by omega) (by omega) (by omega) (n := n) (by omega)) (fun q => by cases q) ?_
  rintro z H2 ⟨f, hf, p2, hR⟩
  have l2 := p2.len
  have hU2 := hU1.pre p2
  obtain ⟨s', hs', hst⟩ := at_r (ro := ro) (X := X) (hX _ rfl) hU2 (i := 0) (n := 49) (by omega) (by omega) (by omega) (by omega) (by omega)
  obtain ⟨step, hstep⟩ : ∃ step, step = 16 + s' := ⟨_, rfl⟩
  have es : (16 : Int) + (s' : Int) = (step : Int) := by omega
  have k : PW ro H2 (.slice (some ⟨yb, 0, none⟩) n yc) z n l f := ⟨hg, ⟨yb, yb + 1, by omega, hI.pre p2⟩, fun _ => by show (H2[yb]?).map Blk.ty = _; rw [p2.get hyb1, hD]; rfl, ⟨_, hR⟩, fun i _ => hf i⟩
  obtain ⟨m, hm⟩ : ∃ m, m = 64 / step := ⟨_, rfl⟩
  obtain ⟨r, hrr⟩ : ∃ r, r = 64 % step := ⟨_, rfl⟩
  have h64 : m * step + r = 64 := by rw [hm, hrr, Nat.mul_comm]; exact Nat.div_add_mod 64 step
  have hrs : r < step := by rw [hrr]; exact Nat.mod_lt _ (by omega)
  have hro2 : ro ≤ H2.length := by omega
  have hm64 : m ≤ 64 := by rw [hm]; exact Nat.div_le_self _ _
  obtain ⟨okT, bdT, leT⟩ := gd_last hm64 (colI_gd hg (fun i _ => hf i) (l := l) (n := n) (f := f) (step := step) hm64 (Nat.le_refl _))
  have eT : colL (skP f l n) step (0, 0) 129 = skT f l n step m := colL_eq _ h64 hrs _
  (repeat' first | simp -dsimp (disch := first | omega | assumption | (refine OkS.sto ?_ (by omega); first | assumption | (refine OkS.sto ?_ (by omega); first | assumption | (refine OkS.sto ?_ (by omega); first | assumption | (refine OkS.sto ?_ (by omega); first | assumption | (refine OkS.sto ?_ (by omega); first | assumption | (refine OkS.sto ?_ (by omega); first | assumption)))))) | exact Pfx.refl _ | (apply Pfx.snoc; repeat (first | exact Pfx.refl _ | assumption | apply Pfx.snoc)) | with_unfolding_all exact of_eq_true (eq_true rfl) | (simp only [List.length_append, List.length_cons, List.length_nil]; omega)) only [↓wpre0, ↓wpre1, ↓reduceIte, Int.reduceToNat, Nat.reduceAdd, Nat.reduceMul, Nat.reduceEqDiff, wpost0, wpost1, wpost2, wpost3, wpost4, ite_self, ite_true, ite_false, if_true, if_false, xlen54, bin_add, un_not, bin_leq, bin_rem, bin_neq, bin_mul, bin_gtr, xbld62_0_1, xcv29_59, bin_fadd, bin_eql, xcv59_29, fr5, wrap_int, wrap_u8, iteP_yes, iteP_no, hst, es, SkyPower_r hX hA k h64 hrs (by omega) hro2] | refine iteP_two (fun hc hd => ?_) (fun hc hd => ?_) | refine iteP_intro (fun hc => ?_) (fun hc => ?_))
  refine loop_rounds (fun mm e h' => ∃ t : Nat, mm = 129 - t ∧ t ≤ 129 ∧ h' = H2 ∧ e 5 = .slice (some ⟨yb, 0, none⟩) n yc ∧ e 6 = z ∧ e 7 = .int .i64 step ∧ e 8 = .float .f32 (nr (skT f l n step m).1) ∧ e 9 = .int .i64 ((skT f l n step m).2 : Nat) ∧ e 11 = .float .f64 (colL (skP f l n) step (0, 0) t).1 ∧ e 12 = .int .i64 ((colL (skP f l n) step (0, 0) t).2 : Nat) ∧ e 13 = .int .i64 ((t : Int) - 64)) _ ⟨0, rfl, ?_⟩ ?_
  · simp only [updO_at, updO_not, entry_at, List.getD_cons_zero, List.getD_cons_succ, ↓reduceIte, Nat.reduceEqDiff, true_and, and_true]
    (repeat' (first | assumption | rfl | omega | refine And.intro ?_ ?_))
  · rintro mm e h' ⟨t, hmm, hle, rfl, g5, g6, g7, g8, g9, g11, g12, g13⟩
    by_cases ht : t < 129
    · obtain ⟨v, hv⟩ : ∃ v : Int, v = (t : Int) - 64 := ⟨_, rfl⟩
      rw [← hv] at g13
      have v1 : -64 ≤ v := by omega
      have v2 : v ≤ 64 := by omega
      have hvn : v + 1 = ((t + 1 : Nat) : Int) - 64 := by omega
      obtain ⟨sv0, sv1⟩ := sqr_range v1 v2
      obtain ⟨rv, hrv⟩ : ∃ rv, v.tmod (step : Int) = rv := ⟨_, rfl⟩
      have hhv : hit step t = decide (rv = 0) := by unfold hit; rw [← hv, hrv]
      have rv1 := Int.tmod_lt_of_pos v (show (0 : Int) < step by omega)
      have rv2 := Int.lt_tmod_of_pos v (show (0 : Int) < step by omega)
      rw [hrv] at rv1 rv2
      have ca := colL_cnt (f := f) (l := l) (n := n) (step := step) t
      have eC : colL (skP f l n) step (0, 0) (t + 1) = if hit step t = true then rowL (skP f l n) step v (colL (skP f l n) step (0, 0) t) 129 else colL (skP f l n) step (0, 0) t := by rw [hv]; rfl
      generalize colL (skP f l n) step (0, 0) t = a at *
      (repeat' first | simp -dsimp (disch := first | omega | assumption | (refine OkS.sto ?_ (by omega); first | assumption | (refine OkS.sto ?_ (by omega); first | assumption | (refine OkS.sto ?_ (by omega); first | assumption | (refine OkS.sto ?_ (by omega); first | assumption | (refine OkS.sto ?_ (by omega); first | assumption | (refine OkS.sto ?_ (by omega); first | assumption)))))) | exact Pfx.refl _ | (apply Pfx.snoc; repeat (first | exact Pfx.refl _ | assumption | apply Pfx.snoc)) | with_unfolding_all exact of_eq_true (eq_true rfl) | (simp only [List.length_append, List.length_cons, List.length_nil]; omega)) only [↓wpre0, ↓wpre1, ↓reduceIte, Int.reduceToNat, Nat.reduceAdd, Nat.reduceMul, Nat.reduceEqDiff, wpost0, wpost1, wpost2, wpost3, wpost4, ite_self, ite_true, ite_false, if_true, if_false, xlen54, bin_add, un_not, bin_leq, bin_rem, bin_neq, bin_mul, bin_gtr, xbld62_0_1, xcv29_59, bin_fadd, bin_eql, xcv59_29, fr5, wrap_int, wrap_u8, iteP_yes, iteP_no, g5, g6, g7, g8, g9, g11, g12, g13] | refine iteP_two (fun hc hd => ?_) (fun hc hd => ?_) | refine iteP_intro (fun hc => ?_) (fun hc => ?_))
      refine loop_exit 2 (fun e h2 => h2 = h' ∧ e 5 = .slice (some ⟨yb, 0, none⟩) n yc ∧ e 6 = z ∧ e 7 = .int .i64 step ∧ e 8 = .float .f32 (nr (skT f l n step m).1) ∧ e 9 = .int .i64 ((skT f l n step m).2 : Nat) ∧ e 11 = .float .f64 (colL (skP f l n) step (0, 0) (t + 1)).1 ∧ e 12 = .int .i64 ((colL (skP f l n) step (0, 0) (t + 1)).2 : Nat) ∧ e 13 = .int .i64 v) ?_ ?_
      · refine loop_rounds (fun mm e h2 => ∃ (s : Nat) (b : Nat × Nat), mm = 129 - s ∧ s ≤ 129 ∧ h2 = h' ∧ b = (if hit step t = true then rowL (skP f l n) step v a s else a) ∧ e 5 = .slice (some ⟨yb, 0, none⟩) n yc ∧ e 6 = z ∧ e 7 = .int .i64 step ∧ e 8 = .float .f32 (nr (skT f l n step m).1) ∧ e 9 = .int .i64 ((skT f l n step m).2 : Nat) ∧ e 11 = .float .f64 b.1 ∧ e 12 = .int .i64 (b.2 : Nat) ∧ e 13 = .int .i64 v ∧ e 14 = .int .i64 ((s : Int) - 64)) _ ⟨0, a, rfl, ?_⟩ ?_
        · simp only [updO_at, updO_not, entry_at, List.getD_cons_zero, List.getD_cons_succ, ↓reduceIte, Nat.reduceEqDiff, true_and, and_true]
          have e0 : a = (if hit step t = true then rowL (skP f l n) step v a 0 else a) := by split <;> rfl
          (repeat' (first | assumption | rfl | omega | refine And.intro ?_ ?_))
        · rintro mm e h2 ⟨s, b, hmm, hles, rfl, hb, g5, g6, g7, g8, g9, g11, g12, g13, g14⟩
          by_cases hs : s < 129
          · obtain ⟨u, hu⟩ : ∃ u : Int, u = (s : Int) - 64 := ⟨_, rfl⟩
            rw [← hu] at g14
            have u1 : -64 ≤ u := by omega
            have u2 : u ≤ 64 := by omega
            have hun : u + 1 = ((s + 1 : Nat) : Int) - 64 := by omega
            obtain ⟨su0, su1⟩ := sqr_range u1 u2
            obtain ⟨ru, hru⟩ : ∃ ru, u.tmod (step : Int) = ru := ⟨_, rfl⟩
            have hhu : hit step s = decide (ru = 0) := by unfold hit; rw [← hu, hru]
            have ru1 := Int.tmod_lt_of_pos u (show (0 : Int) < step by omega)
            have ru2 := Int.lt_tmod_of_pos u (show (0 : Int) < step by omega)
            rw [hru] at ru1 ru2
            have cb : b.2 ≤ a.2 + s := by
              rw [hb]
              split
              · exact rowL_cnt s
              · exact Nat.le_add_right _ _
            have er : rowL (skP f l n) step v a (s + 1) = if hit step s = true then skP f l n u v (rowL (skP f l n) step v a s) else rowL (skP f l n) step v a s := by rw [hu]; rfl
            by_cases qu : ru = 0
            · rw [decide_eq_true qu] at hhu
              rw [hhu, if_pos rfl] at er
              by_cases qv : rv = 0
              · rw [decide_eq_true qv] at hhv
                rw [hhv, if_pos rfl] at hb
                rw [← hb] at er
                by_cases qd : 4096 < u * u + v * v
                · have hd : dirB u v = false := by
                    unfold dirB
                    rw [decide_eq_false (p := u * u + v * v ≤ 4096) (by omega), Bool.and_false]
                  have ea : skP f l n u v b = b := by unfold skP; rw [if_neg (by rw [hd]; decide)]
                  rw [ea] at er
                  (repeat' first | simp -dsimp (disch := first | omega | assumption | (refine OkS.sto ?_ (by omega); first | assumption | (refine OkS.sto ?_ (by omega); first | assumption | (refine OkS.sto ?_ (by omega); first | assumption | (refine OkS.sto ?_ (by omega); first | assumption | (refine OkS.sto ?_ (by omega); first | assumption | (refine OkS.sto ?_ (by omega); first | assumption)))))) | exact Pfx.refl _ | (apply Pfx.snoc; repeat (first | exact Pfx.refl _ | assumption | apply Pfx.snoc)) | with_unfolding_all exact of_eq_true (eq_true rfl) | (simp only [List.length_append, List.length_cons, List.length_nil]; omega)) only [↓wpre0, ↓wpre1, ↓reduceIte, Int.reduceToNat, Nat.reduceAdd, Nat.reduceMul, Nat.reduceEqDiff, wpost0, wpost1, wpost2, wpost3, wpost4, ite_self, ite_true, ite_false, if_true, if_false, xlen54, bin_add, un_not, bin_leq, bin_rem, bin_neq, bin_mul, bin_gtr, xbld62_0_1, xcv29_59, bin_fadd, bin_eql, xcv59_29, fr5, wrap_int, wrap_u8, iteP_yes, iteP_no, g5, g6, g7, g8, g9, g11, g12, g13, g14, bin_rem, hru, hrv, decide_eq_true qu, decide_eq_true qv, decide_eq_true qd, Bool.not_true, Bool.not_false] | refine iteP_two (fun hc hd => ?_) (fun hc hd => ?_) | refine iteP_intro (fun hc => ?_) (fun hc => ?_))
                  refine ⟨129 - (s + 1), by omega, s + 1, b, ?_⟩
                  rw [hhv, if_pos rfl, er]
                  (repeat' (first | assumption | rfl | omega | (rw [hun]) | refine And.intro ?_ ?_))
                · have hd : dirB u v = true := by
                    unfold dirB
                    rw [decide_eq_true u1, decide_eq_true u2, decide_eq_true v1, decide_eq_true v2, decide_eq_true (p := u * u + v * v ≤ 4096) (by omega)]
                    rfl
                  have ea : skP f l n u v b = (farith .add .f64 b.1 (wd (poF f l n u v)), b.2 + 1) := by unfold skP; rw [if_pos hd]
                  rw [ea] at er
                  (repeat' first | simp -dsimp (disch := first | omega | assumption | (refine OkS.sto ?_ (by omega); first | assumption | (refine OkS.sto ?_ (by omega); first | assumption | (refine OkS.sto ?_ (by omega); first | assumption | (refine OkS.sto ?_ (by omega); first | assumption | (refine OkS.sto ?_ (by omega); first | assumption | (refine OkS.sto ?_ (by omega); first | assumption)))))) | exact Pfx.refl _ | (apply Pfx.snoc; repeat (first | exact Pfx.refl _ | assumption | apply Pfx.snoc)) | with_unfolding_all exact of_eq_true (eq_true rfl) | (simp only [List.length_append, List.length_cons, List.length_nil]; omega)) only [↓wpre0, ↓wpre1, ↓reduceIte, Int.reduceToNat, Nat.reduceAdd, Nat.reduceMul, Nat.reduceEqDiff, wpost0, wpost1, wpost2, wpost3, wpost4, ite_self, ite_true, ite_false, if_true, if_false, xlen54, bin_add, un_not, bin_leq, bin_rem, bin_neq, bin_mul, bin_gtr, xbld62_0_1, xcv29_59, bin_fadd, bin_eql, xcv59_29, fr5, wrap_int, wrap_u8, iteP_yes, iteP_no, g5, g6, g7, g8, g9, g11, g12, g13, g14, bin_rem, hru, hrv, decide_eq_true qu, decide_eq_true qv, decide_eq_false qd, Bool.not_true, Bool.not_false, PowerAt_r hX hA k hd hro2, cv_w (wd_bd (poF_bd k.g hd k.bd).2).1] | refine iteP_two (fun hc hd => ?_) (fun hc hd => ?_) | refine iteP_intro (fun hc => ?_) (fun hc => ?_))
                  refine ⟨129 - (s + 1), by omega, s + 1, (farith .add .f64 b.1 (wd (poF f l n u v)), b.2 + 1), ?_⟩
                  rw [hhv, if_pos rfl, er]
                  (repeat' (first | assumption | rfl | omega | (rw [hun]) | refine And.intro ?_ ?_))
              · rw [decide_eq_false qv] at hhv
                rw [hhv, if_neg (by decide)] at hb
                (repeat' first | simp -dsimp (disch := first | omega | assumption | (refine OkS.sto ?_ (by omega); first | assumption | (refine OkS.sto ?_ (by omega); first | assumption | (refine OkS.sto ?_ (by omega); first | assumption | (refine OkS.sto ?_ (by omega); first | assumption | (refine OkS.sto ?_ (by omega); first | assumption | (refine OkS.sto ?_ (by omega); first | assumption)))))) | exact Pfx.refl _ | (apply Pfx.snoc; repeat (first | exact Pfx.refl _ | assumption | apply Pfx.snoc)) | with_unfolding_all exact of_eq_true (eq_true rfl) | (simp only [List.length_append, List.length_cons, List.length_nil]; omega)) only [↓wpre0, ↓wpre1, ↓reduceIte, Int.reduceToNat, Nat.reduceAdd, Nat.reduceMul, Nat.reduceEqDiff, wpost0, wpost1, wpost2, wpost3, wpost4, ite_self, ite_true, ite_false, if_true, if_false, xlen54, bin_add, un_not, bin_leq, bin_rem, bin_neq, bin_mul, bin_gtr, xbld62_0_1, xcv29_59, bin_fadd, bin_eql, xcv59_29, fr5, wrap_int, wrap_u8, iteP_yes, iteP_no, g5, g6, g7, g8, g9, g11, g12, g13, g14, bin_rem, hru, hrv, decide_eq_true qu, decide_eq_false qv, Bool.not_true, Bool.not_false] | refine iteP_two (fun hc hd => ?_) (fun hc hd => ?_) | refine iteP_intro (fun hc => ?_) (fun hc => ?_))
                refine ⟨129 - (s + 1), by omega, s + 1, b, ?_⟩
                rw [hhv, if_neg (by decide), hb]
                (repeat' (first | assumption | rfl | omega | (rw [hun]) | refine And.intro ?_ ?_))
            · rw [decide_eq_false qu] at hhu
              rw [hhu, if_neg (by decide)] at er
              (repeat' first | simp -dsimp (disch := first | omega | assumption | (refine OkS.sto ?_ (by omega); first | assumption | (refine OkS.sto ?_ (by omega); first | assumption | (refine OkS.sto ?_ (by omega); first | assumption | (refine OkS.sto ?_ (by omega); first | assumption | (refine OkS.sto ?_ (by omega); first | assumption | (refine OkS.sto ?_ (by omega); first | assumption)))))) | exact Pfx.refl _ | (apply Pfx.snoc; repeat (first | exact Pfx.refl _ | assumption | apply Pfx.snoc)) | with_unfolding_all exact of_eq_true (eq_true rfl) | (simp only [List.length_append, List.length_cons, List.length_nil]; omega)) only [↓wpre0, ↓wpre1, ↓reduceIte, Int.reduceToNat, Nat.reduceAdd, Nat.reduceMul, Nat.reduceEqDiff, wpost0, wpost1, wpost2, wpost3, wpost4, ite_self, ite_true, ite_false, if_true, if_false, xlen54, bin_add, un_not, bin_leq, bin_rem, bin_neq, bin_mul, bin_gtr, xbld62_0_1, xcv29_59, bin_fadd, bin_eql, xcv59_29, fr5, wrap_int, wrap_u8, iteP_yes, iteP_no, g5, g6, g7, g8, g9, g11, g12, g13, g14, bin_rem, hru, hrv, decide_eq_false qu, Bool.not_true, Bool.not_false] | refine iteP_two (fun hc hd => ?_) (fun hc hd => ?_) | refine iteP_intro (fun hc => ?_) (fun hc => ?_))
              refine ⟨129 - (s + 1), by omega, s + 1, b, ?_⟩
              rw [er, ← hb]
              (repeat' (first | assumption | rfl | omega | (rw [hun]) | refine And.intro ?_ ?_))
          · have es : s = 129 := by omega
            (repeat' first | simp -dsimp (disch := first | omega | assumption | (refine OkS.sto ?_ (by omega); first | assumption | (refine OkS.sto ?_ (by omega); first | assumption | (refine OkS.sto ?_ (by omega); first | assumption | (refine OkS.sto ?_ (by omega); first | assumption | (refine OkS.sto ?_ (by omega); first | assumption | (refine OkS.sto ?_ (by omega); first | assumption)))))) | exact Pfx.refl _ | (apply Pfx.snoc; repeat (first | exact Pfx.refl _ | assumption | apply Pfx.snoc)) | with_unfolding_all exact of_eq_true (eq_true rfl) | (simp only [List.length_append, List.length_cons, List.length_nil]; omega)) only [↓wpre0, ↓wpre1, ↓reduceIte, Int.reduceToNat, Nat.reduceAdd, Nat.reduceMul, Nat.reduceEqDiff, wpost0, wpost1, wpost2, wpost3, wpost4, ite_self, ite_true, ite_false, if_true, if_false, xlen54, bin_add, un_not, bin_leq, bin_rem, bin_neq, bin_mul, bin_gtr, xbld62_0_1, xcv29_59, bin_fadd, bin_eql, xcv59_29, fr5, wrap_int, wrap_u8, iteP_yes, iteP_no, g5, g6, g7, g8, g9, g11, g12, g13, g14] | refine iteP_two (fun hc hd => ?_) (fun hc hd => ?_) | refine iteP_intro (fun hc => ?_) (fun hc => ?_))
            rw [es] at hb
            rw [eC, ← hb]
            (repeat' (first | assumption | rfl | omega | refine And.intro ?_ ?_))
      · rintro e h2 ⟨rfl, g5, g6, g7, g8, g9, g11, g12, g13⟩
        (repeat' first | simp -dsimp (disch := first | omega | assumption | (refine OkS.sto ?_ (by omega); first | assumption | (refine OkS.sto ?_ (by omega); first | assumption | (refine OkS.sto ?_ (by omega); first | assumption | (refine OkS.sto ?_ (by omega); first | assumption | (refine OkS.sto ?_ (by omega); first | assumption | (refine OkS.sto ?_ (by omega); first | assumption)))))) | exact Pfx.refl _ | (apply Pfx.snoc; repeat (first | exact Pfx.refl _ | assumption | apply Pfx.snoc)) | with_unfolding_all exact of_eq_true (eq_true rfl) | (simp only [List.length_append, List.length_cons, List.length_nil]; omega)) only [↓wpre0, ↓wpre1, ↓reduceIte, Int.reduceToNat, Nat.reduceAdd, Nat.reduceMul, Nat.reduceEqDiff, wpost0, wpost1, wpost2, wpost3, wpost4, ite_self, ite_true, ite_false, if_true, if_false, xlen54, bin_add, un_not, bin_leq, bin_rem, bin_neq, bin_mul, bin_gtr, xbld62_0_1, xcv29_59, bin_fadd, bin_eql, xcv59_29, fr5, wrap_int, wrap_u8, iteP_yes, iteP_no, g5, g6, g7, g8, g9, g11, g12, g13] | refine iteP_two (fun hc hd => ?_) (fun hc hd => ?_) | refine iteP_intro (fun hc => ?_) (fun hc => ?_))
        refine ⟨129 - (t + 1), by omega, t + 1, ?_⟩
        (repeat' (first | assumption | rfl | omega | (rw [hvn]) | refine And.intro ?_ ?_))
    · have et : t = 129 := by omega
      rw [et, eT] at g11 g12
      have hsame := SameS_r (ro := ro) (b := nr (skT f l n step m).1) hX hB bdT.notNaN h'
      have okT' : okN (skT f l n step m).1 := okT
      (repeat' first | simp -dsimp (disch := first | omega | assumption | (refine OkS.sto ?_ (by omega); first | assumption | (refine OkS.sto ?_ (by omega); first | assumption | (refine OkS.sto ?_ (by omega); first | assumption | (refine OkS.sto ?_ (by omega); first | assumption | (refine OkS.sto ?_ (by omega); first | assumption | (refine OkS.sto ?_ (by omega); first | assumption)))))) | exact Pfx.refl _ | (apply Pfx.snoc; repeat (first | exact Pfx.refl _ | assumption | apply Pfx.snoc)) | with_unfolding_all exact of_eq_true (eq_true rfl) | (simp only [List.length_append, List.length_cons, List.length_nil]; omega)) only [↓wpre0, ↓wpre1, ↓reduceIte, Int.reduceToNat, Nat.reduceAdd, Nat.reduceMul, Nat.reduceEqDiff, wpost0, wpost1, wpost2, wpost3, wpost4, ite_self, ite_true, ite_false, if_true, if_false, xlen54, bin_add, un_not, bin_leq, bin_rem, bin_neq, bin_mul, bin_gtr, xbld62_0_1, xcv29_59, bin_fadd, bin_eql, xcv59_29, fr5, wrap_int, wrap_u8, iteP_yes, iteP_no, g5, g6, g7, g8, g9, g11, g12, g13, cv_n okT', hsame] | refine iteP_two (fun hc hd => ?_) (fun hc hd => ?_) | refine iteP_intro (fun hc => ?_) (fun hc => ?_))
      all_goals rfl
theorem lawS_c {cd md : List UInt8} (hV : VS lo hi 1 h x cd.length (cd.map u8v)) (hU : VS lo' hi' 1 h y md.length (md.map u8v)) (hhi : hi ≤ h.length) (hhi' : hi' ≤ h.length) (hro : ro ≤ h.length) (hl : cd.length ≤ 140737488351232) (hl' : md.length ≤ 140737488351232) :
    CallR Try.prog ro (xS1 ro) 5 [x, y] h (fun r h' => r = .bool true) :=
  lawSky_c (xn_S1 ro) xn_S0 (XDW.of xn_S0 rfl) ⟨rfl, rfl⟩ rfl rfl (XDW.of (xn_S1 ro) rfl) hV hU hhi hhi' hro hl hl'
end Go.Proofs.Ytelogajobjflfaa.Sim
