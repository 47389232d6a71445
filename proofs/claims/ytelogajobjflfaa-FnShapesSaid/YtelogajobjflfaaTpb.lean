/- Phasors of any number of turns; tapers, walked. Lemmas only; no condition. -/
import Derived.Test.YtelogajobjflfaaSne
set_option linter.unusedSimpArgs false
set_option linter.unusedVariables false
set_option maxRecDepth 8000
namespace Go.Proofs.Ytelogajobjflfaa.Sim
open Go Go.RowKit Fl
variable {ro lo hi n : Nat} {X : Ext} {h : Heap} {x y : Value} {l : List Int} {u v : Int}
/-- All that the phasor of some turns asks of them: 'q' quarters. -/
def okNb (b : Nat) : Bool := decide (fconv .f64 b .f32 = some (nr b))
theorem okN_b {b : Nat} (h : okNb b = true) : okN b := by
  unfold okNb at h
  unfold okN
  exact of_decide_eq_true h
def numB (d : Ieee.Datum) : Bool := match d with | .number _ _ _ => true | _ => false
def leFq (f : Nat) : Nat → Bool
  | 0 => true
  | q + 1 => leFq f q && fcmp .leq .f64 fQuarter (fqF f q)
theorem leFq_at {f : Nat} : ∀ {q j : Nat}, leFq f q = true → j < q → fcmp .leq .f64 fQuarter (fqF f j) = true
  | 0, j, _, h => by omega
  | q + 1, j, h, hj => by
    simp only [leFq, Bool.and_eq_true] at h
    by_cases e : j = q
    · rw [e]; exact h.2
    · exact leFq_at h.1 (by omega)
def phG (x q : Nat) : CB := phB ((frF x).getD 0) q
def phOk (x q : Nat) : Bool :=
  let f := (frF x).getD 0
  let g := fqF f q
  let c := snF (farith .sub .f64 fQuarter g)
  let s := snF g
  numB (FloatKind.f64.decode x) && decide (x < 2 ^ 64) && fcmp .eql .f64 (farith .sub .f64 x x) 0 && !(fcmp .leq .f64 4841369599423283200 (x % 9223372036854775808)) && (frF x).isSome && leFq f q && !(fcmp .leq .f64 fQuarter g) && (frF (farith .sub .f64 fQuarter g)).isSome && (frF g).isSome && okNb c && okNb s && okNb (farith .sub .f64 0 c) && okNb (farith .sub .f64 0 s)
set_option maxHeartbeats 4000000 in
theorem PhasorG_r (hX : XN X) (hA : XAbs X) {x q : Nat} (hq4 : q < 4) (hk : phOk x q = true) (h : Heap) : Ret Try.prog ro X 94 [.float .f64 x] h (toV (phG x q)) := by
  obtain ⟨f, hf⟩ : ∃ f, f = (frF x).getD 0 := ⟨_, rfl⟩
  unfold phOk at hk
  simp only [← hf, Bool.and_eq_true, decide_eq_true_eq, Bool.not_eq_true', Option.isSome_iff_exists] at hk
  obtain ⟨⟨⟨⟨⟨⟨⟨⟨⟨⟨⟨⟨k1, k2⟩, k3⟩, k4⟩, f', k5⟩, k6⟩, k7⟩, ⟨w1, k8⟩⟩, ⟨w2, k9⟩⟩, k10⟩, k11⟩, k12⟩, k13⟩ := hk
  have ef : f = f' := by rw [hf, k5]; rfl
  subst ef
  have hd : ∃ sg m p, FloatKind.f64.decode x = .number sg m p := by
    unfold numB at k1
    split at k1
    · exact ⟨_, _, _, by assumption⟩
    · cases k1
  obtain ⟨sg, m, p, hd⟩ := hd
  have hab := abs_r (ro := ro) hX hA hd k2 h
  have fr := fraction_r (ro := ro) (h := h) hX k5
  have hfin : Ret Try.prog ro X 180 [.float .f64 x] h (.bool true) := by
    refine ret_of (callR_of (hX _ rfl) Try.func180 rfl (by kernel_rfl) (Nat.le_of_ble_eq_true rfl) ?_)
    (repeat' first | simp -dsimp (disch := first | omega | assumption | (refine OkS.sto ?_ (by omega); first | assumption | (refine OkS.sto ?_ (by omega); first | assumption | (refine OkS.sto ?_ (by omega); first | assumption | (refine OkS.sto ?_ (by omega); first | assumption | (refine OkS.sto ?_ (by omega); first | assumption | (refine OkS.sto ?_ (by omega); first | assumption)))))) | exact Pfx.refl _ | (apply Pfx.snoc; repeat (first | exact Pfx.refl _ | assumption | apply Pfx.snoc)) | with_unfolding_all exact of_eq_true (eq_true rfl) | (simp only [List.length_append, List.length_cons, List.length_nil]; omega)) only [↓wpre0, ↓wpre1, ↓reduceIte, Int.reduceToNat, Nat.reduceAdd, Nat.reduceMul, Nat.reduceEqDiff, wpost0, wpost1, wpost2, wpost3, wpost4, ite_self, ite_true, ite_false, if_true, if_false, bin_fsub, bin_feql, fr180, wrap_int, wrap_u8, iteP_yes, iteP_no, k3] | refine iteP_two (fun hc hd => ?_) (fun hc hd => ?_) | refine iteP_intro (fun hc => ?_) (fun hc => ?_))
  have hP : phG x q = phB f q := by unfold phG; rw [← hf]
  have s1 : Ret Try.prog ro X 184 [.float .f64 (farith .sub .f64 fQuarter (fqF f q))] h (.float .f64 (snF (farith .sub .f64 fQuarter (fqF f q)))) := by
    have := sine_r (ro := ro) (h := h) hX k8
    unfold snF
    rw [k8]; exact this
  have s2 : Ret Try.prog ro X 184 [.float .f64 (fqF f q)] h (.float .f64 (snF (fqF f q))) := by
    have := sine_r (ro := ro) (h := h) hX k9
    unfold snF
    rw [k9]; exact this
  have c1 := okN_b k10
  have c2 := okN_b k11
  have d1 := okN_b k12
  have d2 := okN_b k13
  have eP : phB f q = (if q = 0 then ⟨nr (snF (farith .sub .f64 fQuarter (fqF f q))), nr (snF (fqF f q))⟩ else if q = 1 then ⟨nr (farith .sub .f64 0 (snF (fqF f q))), nr (snF (farith .sub .f64 fQuarter (fqF f q)))⟩ else if q = 2 then ⟨nr (farith .sub .f64 0 (snF (farith .sub .f64 fQuarter (fqF f q)))), nr (farith .sub .f64 0 (snF (fqF f q)))⟩ else ⟨nr (snF (fqF f q)), nr (farith .sub .f64 0 (snF (farith .sub .f64 fQuarter (fqF f q))))⟩) := rfl
  rw [hP, eP]
  have fq : fQuarter = 4598175219545276416 := rfl
  rw [fq] at s1 c1 d1 k7 ⊢
  generalize snF (farith .sub .f64 4598175219545276416 (fqF f q)) = C at *
  generalize snF (fqF f q) = S at *
  clear hP eP k8 k9 k10 k11 k12 k13 hf k5
  refine ret_of (callR_of (hX _ rfl) Try.func94 rfl (by kernel_rfl) (Nat.le_of_ble_eq_true rfl) ?_)
  (repeat' first | simp -dsimp (disch := first | omega | assumption | (refine OkS.sto ?_ (by omega); first | assumption | (refine OkS.sto ?_ (by omega); first | assumption | (refine OkS.sto ?_ (by omega); first | assumption | (refine OkS.sto ?_ (by omega); first | assumption | (refine OkS.sto ?_ (by omega); first | assumption | (refine OkS.sto ?_ (by omega); first | assumption)))))) | exact Pfx.refl _ | (apply Pfx.snoc; repeat (first | exact Pfx.refl _ | assumption | apply Pfx.snoc)) | with_unfolding_all exact of_eq_true (eq_true rfl) | (simp only [List.length_append, List.length_cons, List.length_nil]; omega)) only [↓wpre0, ↓wpre1, ↓reduceIte, Int.reduceToNat, Nat.reduceAdd, Nat.reduceMul, Nat.reduceEqDiff, wpost0, wpost1, wpost2, wpost3, wpost4, ite_self, ite_true, ite_false, if_true, if_false, un_not, xcv59_29, blt_cpx, bin_fgeq, bin_fsub, bin_add, bin_eql, fr94, wrap_int, wrap_u8, iteP_yes, iteP_no, hfin, hab, k4, fr] | refine iteP_two (fun hc hd => ?_) (fun hc hd => ?_) | refine iteP_intro (fun hc => ?_) (fun hc => ?_))
  refine loop_rounds (fun mm e h' => ∃ j : Nat, mm = 4 - j ∧ j ≤ q ∧ h' = h ∧ e 4 = .float .f64 (fqF f j) ∧ e 5 = .int .i64 j) _ ⟨0, rfl, ?_⟩ ?_
  · simp only [updO_at, updO_not, entry_at, List.getD_cons_zero, List.getD_cons_succ, ↓reduceIte, Nat.reduceEqDiff, true_and, and_true]
    (repeat' (first | assumption | rfl | omega | refine And.intro ?_ ?_))
  · rintro mm e h' ⟨j, hmm, hj, rfl, g4, g5⟩
    have hks : (j : Int) + 1 = ((j + 1 : Nat) : Int) := by omega
    by_cases hjq : j < q
    · have hcq := leFq_at k6 hjq
      unfold fQuarter at hcq
      (repeat' first | simp -dsimp (disch := first | omega | assumption | (refine OkS.sto ?_ (by omega); first | assumption | (refine OkS.sto ?_ (by omega); first | assumption | (refine OkS.sto ?_ (by omega); first | assumption | (refine OkS.sto ?_ (by omega); first | assumption | (refine OkS.sto ?_ (by omega); first | assumption | (refine OkS.sto ?_ (by omega); first | assumption)))))) | exact Pfx.refl _ | (apply Pfx.snoc; repeat (first | exact Pfx.refl _ | assumption | apply Pfx.snoc)) | with_unfolding_all exact of_eq_true (eq_true rfl) | (simp only [List.length_append, List.length_cons, List.length_nil]; omega)) only [↓wpre0, ↓wpre1, ↓reduceIte, Int.reduceToNat, Nat.reduceAdd, Nat.reduceMul, Nat.reduceEqDiff, wpost0, wpost1, wpost2, wpost3, wpost4, ite_self, ite_true, ite_false, if_true, if_false, un_not, xcv59_29, blt_cpx, bin_fgeq, bin_fsub, bin_add, bin_eql, fr94, wrap_int, wrap_u8, iteP_yes, iteP_no, g4, g5, hcq, hks] | refine iteP_two (fun hc hd => ?_) (fun hc hd => ?_) | refine iteP_intro (fun hc => ?_) (fun hc => ?_))
      refine ⟨4 - (j + 1), by omega, j + 1, ?_⟩
      have : farith .sub .f64 (fqF f j) 4598175219545276416 = fqF f (j + 1) := rfl
      (repeat' (first | assumption | rfl | omega | (rw [this]) | refine And.intro ?_ ?_))
    · have : j = q := by omega
      subst this
      have hj' : j = 0 ∨ j = 1 ∨ j = 2 ∨ j = 3 := by omega
      generalize fqF f j = g at *
      rcases hj' with rfl | rfl | rfl | rfl
      · (repeat' first | simp -dsimp (disch := first | omega | assumption | (refine OkS.sto ?_ (by omega); first | assumption | (refine OkS.sto ?_ (by omega); first | assumption | (refine OkS.sto ?_ (by omega); first | assumption | (refine OkS.sto ?_ (by omega); first | assumption | (refine OkS.sto ?_ (by omega); first | assumption | (refine OkS.sto ?_ (by omega); first | assumption)))))) | exact Pfx.refl _ | (apply Pfx.snoc; repeat (first | exact Pfx.refl _ | assumption | apply Pfx.snoc)) | with_unfolding_all exact of_eq_true (eq_true rfl) | (simp only [List.length_append, List.length_cons, List.length_nil]; omega)) only [↓wpre0, ↓wpre1, ↓reduceIte, Int.reduceToNat, Nat.reduceAdd, Nat.reduceMul, Nat.reduceEqDiff, wpost0, wpost1, wpost2, wpost3, wpost4, ite_self, ite_true, ite_false, if_true, if_false, un_not, xcv59_29, blt_cpx, bin_fgeq, bin_fsub, bin_add, bin_eql, fr94, wrap_int, wrap_u8, iteP_yes, iteP_no, g4, g5, k7, s1, s2, cv_n c1, cv_n c2] | refine iteP_two (fun hc hd => ?_) (fun hc hd => ?_) | refine iteP_intro (fun hc => ?_) (fun hc => ?_))
      · (repeat' first | simp -dsimp (disch := first | omega | assumption | (refine OkS.sto ?_ (by omega); first | assumption | (refine OkS.sto ?_ (by omega); first | assumption | (refine OkS.sto ?_ (by omega); first | assumption | (refine OkS.sto ?_ (by omega); first | assumption | (refine OkS.sto ?_ (by omega); first | assumption | (refine OkS.sto ?_ (by omega); first | assumption)))))) | exact Pfx.refl _ | (apply Pfx.snoc; repeat (first | exact Pfx.refl _ | assumption | apply Pfx.snoc)) | with_unfolding_all exact of_eq_true (eq_true rfl) | (simp only [List.length_append, List.length_cons, List.length_nil]; omega)) only [↓wpre0, ↓wpre1, ↓reduceIte, Int.reduceToNat, Nat.reduceAdd, Nat.reduceMul, Nat.reduceEqDiff, wpost0, wpost1, wpost2, wpost3, wpost4, ite_self, ite_true, ite_false, if_true, if_false, un_not, xcv59_29, blt_cpx, bin_fgeq, bin_fsub, bin_add, bin_eql, fr94, wrap_int, wrap_u8, iteP_yes, iteP_no, g4, g5, k7, s1, s2, cv_n d2, cv_n c1] | refine iteP_two (fun hc hd => ?_) (fun hc hd => ?_) | refine iteP_intro (fun hc => ?_) (fun hc => ?_))
      · (repeat' first | simp -dsimp (disch := first | omega | assumption | (refine OkS.sto ?_ (by omega); first | assumption | (refine OkS.sto ?_ (by omega); first | assumption | (refine OkS.sto ?_ (by omega); first | assumption | (refine OkS.sto ?_ (by omega); first | assumption | (refine OkS.sto ?_ (by omega); first | assumption | (refine OkS.sto ?_ (by omega); first | assumption)))))) | exact Pfx.refl _ | (apply Pfx.snoc; repeat (first | exact Pfx.refl _ | assumption | apply Pfx.snoc)) | with_unfolding_all exact of_eq_true (eq_true rfl) | (simp only [List.length_append, List.length_cons, List.length_nil]; omega)) only [↓wpre0, ↓wpre1, ↓reduceIte, Int.reduceToNat, Nat.reduceAdd, Nat.reduceMul, Nat.reduceEqDiff, wpost0, wpost1, wpost2, wpost3, wpost4, ite_self, ite_true, ite_false, if_true, if_false, un_not, xcv59_29, blt_cpx, bin_fgeq, bin_fsub, bin_add, bin_eql, fr94, wrap_int, wrap_u8, iteP_yes, iteP_no, g4, g5, k7, s1, s2, cv_n d1, cv_n d2] | refine iteP_two (fun hc hd => ?_) (fun hc hd => ?_) | refine iteP_intro (fun hc => ?_) (fun hc => ?_))
      · (repeat' first | simp -dsimp (disch := first | omega | assumption | (refine OkS.sto ?_ (by omega); first | assumption | (refine OkS.sto ?_ (by omega); first | assumption | (refine OkS.sto ?_ (by omega); first | assumption | (refine OkS.sto ?_ (by omega); first | assumption | (refine OkS.sto ?_ (by omega); first | assumption | (refine OkS.sto ?_ (by omega); first | assumption)))))) | exact Pfx.refl _ | (apply Pfx.snoc; repeat (first | exact Pfx.refl _ | assumption | apply Pfx.snoc)) | with_unfolding_all exact of_eq_true (eq_true rfl) | (simp only [List.length_append, List.length_cons, List.length_nil]; omega)) only [↓wpre0, ↓wpre1, ↓reduceIte, Int.reduceToNat, Nat.reduceAdd, Nat.reduceMul, Nat.reduceEqDiff, wpost0, wpost1, wpost2, wpost3, wpost4, ite_self, ite_true, ite_false, if_true, if_false, un_not, xcv59_29, blt_cpx, bin_fgeq, bin_fsub, bin_add, bin_eql, fr94, wrap_int, wrap_u8, iteP_yes, iteP_no, g4, g5, k7, s1, s2, cv_n c2, cv_n d1] | refine iteP_two (fun hc hd => ?_) (fun hc hd => ?_) | refine iteP_intro (fun hc => ?_) (fun hc => ?_))
/-! ### Gaps -/
theorem fmax_or {k : FloatKind} {a b : Nat} {va vb : Int} (ha : Fl.fin k a va) (hb : Fl.fin k b vb) : fmax true k a b = a ∨ fmax true k a b = b := by
  unfold fmax
  rw [order_fin ha hb]
  rcases hc : compare va vb with _ | _ | _
  · exact .inr rfl
  · by_cases q : (k.decode a).neg = true
    · simp only [q, if_true, or_true]
    · simp only [q, if_true, if_false, true_or, Bool.false_eq_true]
  · exact .inl rfl
def gpF (a b : Nat) : Nat := fmax true .f64 (farith .sub .f64 a b) (farith .sub .f64 b a)
theorem blt_maxG {P : Program} {ts : List TypeId} {h : Heap} {k : FloatKind} {a b : Nat} : ablt P ro .max ts [.float k a, .float k b] h = some (.float k (fmax true k a b), h) := by
  refine blt_max (v := .float k (fmax true k a b)) ?_
  simp only [fold2, mm, ↓reduceIte, Option.bind, bind]
theorem Gap_r (hX : XN X) (a b : Nat) (h : Heap) : Ret Try.prog ro X 87 [.float .f64 a, .float .f64 b] h (.float .f64 (gpF a b)) := by
  have e : gpF a b = fmax true .f64 (farith .sub .f64 a b) (farith .sub .f64 b a) := rfl
  rw [e]
  refine ret_of (callR_of (hX _ rfl) Try.func87 rfl (by kernel_rfl) (Nat.le_of_ble_eq_true rfl) ?_)
  (repeat' first | simp -dsimp (disch := first | omega | assumption | (refine OkS.sto ?_ (by omega); first | assumption | (refine OkS.sto ?_ (by omega); first | assumption | (refine OkS.sto ?_ (by omega); first | assumption | (refine OkS.sto ?_ (by omega); first | assumption | (refine OkS.sto ?_ (by omega); first | assumption | (refine OkS.sto ?_ (by omega); first | assumption)))))) | exact Pfx.refl _ | (apply Pfx.snoc; repeat (first | exact Pfx.refl _ | assumption | apply Pfx.snoc)) | with_unfolding_all exact of_eq_true (eq_true rfl) | (simp only [List.length_append, List.length_cons, List.length_nil]; omega)) only [↓wpre0, ↓wpre1, ↓reduceIte, Int.reduceToNat, Nat.reduceAdd, Nat.reduceMul, Nat.reduceEqDiff, wpost0, wpost1, wpost2, wpost3, wpost4, ite_self, ite_true, ite_false, if_true, if_false, bin_fsub, blt_maxI, fr87, wrap_int, wrap_u8, iteP_yes, iteP_no, blt_maxG] | refine iteP_two (fun hc hd => ?_) (fun hc hd => ?_) | refine iteP_intro (fun hc => ?_) (fun hc => ?_))
/-! ### Tapers -/
def wyF (n : Nat) : Nat → Nat
  | 0 => 1
  | k + 1 => wyF n k * (n - k) / (k + 1)
def all2 (f : Nat → Nat → Bool) : Nat → Nat → Bool
  | 0, _ => true
  | a + 1, m => all2 f a m && (List.range m).all (f a)
theorem all2_at {f : Nat → Nat → Bool} {m : Nat} : ∀ {a : Nat}, all2 f a m = true → ∀ i j, i < a → j < m → f i j = true
  | 0, _, i, j, h, _ => by omega
  | a + 1, h, i, j, hi, hj => by
    simp only [all2, Bool.and_eq_true] at h
    by_cases e : i = a
    · subst e
      exact (List.all_eq_true.1 h.2) j (List.mem_range.2 hj)
    · exact all2_at h.1 i j (by omega) hj
theorem wy_all : all2 (fun n k => decide (wyF n k ≤ 10000)) 16 16 = true := by decide +kernel
theorem wy_le {n k : Nat} (hn : n < 16) (hk : k < 16) : wyF n k ≤ 10000 := of_decide_eq_true (all2_at wy_all n k hn hk)
theorem waysOf_r (hX : XN X) {n k : Nat} (hn : n < 16) (hk : k ≤ n) (h : Heap) : Ret Try.prog ro X 241 [.int .i64 n, .int .i64 k] h (.int .i64 (wyF n k : Nat)) := by
  refine ret_of (callR_of (hX _ rfl) Try.func241 rfl (by kernel_rfl) (Nat.le_of_ble_eq_true rfl) ?_)
  (repeat' first | simp -dsimp (disch := first | omega | assumption | (refine OkS.sto ?_ (by omega); first | assumption | (refine OkS.sto ?_ (by omega); first | assumption | (refine OkS.sto ?_ (by omega); first | assumption | (refine OkS.sto ?_ (by omega); first | assumption | (refine OkS.sto ?_ (by omega); first | assumption | (refine OkS.sto ?_ (by omega); first | assumption)))))) | exact Pfx.refl _ | (apply Pfx.snoc; repeat (first | exact Pfx.refl _ | assumption | apply Pfx.snoc)) | with_unfolding_all exact of_eq_true (eq_true rfl) | (simp only [List.length_append, List.length_cons, List.length_nil]; omega)) only [↓wpre0, ↓wpre1, ↓reduceIte, Int.reduceToNat, Nat.reduceAdd, Nat.reduceMul, Nat.reduceEqDiff, wpost0, wpost1, wpost2, wpost3, wpost4, ite_self, ite_true, ite_false, if_true, if_false, bin_lss, bin_sub, bin_mul, bin_add, bin_quo, fr241, wrap_int, wrap_u8, iteP_yes, iteP_no] | refine iteP_two (fun hc hd => ?_) (fun hc hd => ?_) | refine iteP_intro (fun hc => ?_) (fun hc => ?_))
  refine loop_rounds (fun mm e h' => ∃ i : Nat, mm = k - i ∧ i ≤ k ∧ h' = h ∧ e 0 = .int .i64 n ∧ e 5 = .int .i64 (wyF n i : Nat) ∧ e 7 = .int .i64 k ∧ e 8 = .int .i64 i) _ ⟨0, rfl, ?_⟩ ?_
  · simp only [updO_at, updO_not, entry_at, List.getD_cons_zero, List.getD_cons_succ, ↓reduceIte, Nat.reduceEqDiff, true_and, and_true]
    (repeat' (first | assumption | rfl | omega | refine And.intro ?_ ?_))
  · rintro mm e h' ⟨i, hmm, hle, rfl, g0, g5, g7, g8⟩
    have hks : (i : Int) + 1 = ((i + 1 : Nat) : Int) := by omega
    by_cases hi : i < k
    · have hw := wy_le hn (show i < 16 by omega)
      have hw2 := wy_le hn (show i + 1 < 16 by omega)
      have e1 : (n : Int) - (i : Int) = ((n - i : Nat) : Int) := by omega
      have e2 : ((wyF n i : Nat) : Int) * ((n : Int) - (i : Int)) = ((wyF n i * (n - i) : Nat) : Int) := by rw [e1]; exact (Int.natCast_mul _ _).symm
      have hm : wyF n i * (n - i) ≤ 10000 * 16 := Nat.mul_le_mul hw (by omega)
      have e3 : ((wyF n i * (n - i) : Nat) : Int).tdiv ((i + 1 : Nat) : Int) = ((wyF n (i + 1) : Nat) : Int) := by
        rw [Int.tdiv_eq_ediv_of_nonneg (by omega)]; rfl
      have hz : (i : Int) + 1 ≠ 0 := by omega
      rw [← hks] at e3
      generalize wyF n i * (n - i) = M at *
      simp -dsimp (disch := first | omega | assumption | (refine OkS.sto ?_ (by omega); first | assumption | (refine OkS.sto ?_ (by omega); first | assumption | (refine OkS.sto ?_ (by omega); first | assumption | (refine OkS.sto ?_ (by omega); first | assumption | (refine OkS.sto ?_ (by omega); first | assumption | (refine OkS.sto ?_ (by omega); first | assumption)))))) | exact Pfx.refl _ | (apply Pfx.snoc; repeat (first | exact Pfx.refl _ | assumption | apply Pfx.snoc)) | with_unfolding_all exact of_eq_true (eq_true rfl) | (simp only [List.length_append, List.length_cons, List.length_nil]; omega)) only [↓wpre0, ↓wpre1, ↓reduceIte, Int.reduceToNat, Nat.reduceAdd, Nat.reduceMul, Nat.reduceEqDiff, wpost0, wpost1, wpost2, wpost3, wpost4, ite_self, ite_true, ite_false, if_true, if_false, bin_lss, bin_sub, bin_mul, bin_add, bin_quo, fr241, wrap_int, wrap_u8, iteP_yes, iteP_no, g0, g5, g7, g8, e2, bin_quo, hz, e3]
      exact ⟨k - (i + 1), by omega, i + 1, rfl, by omega, rfl, by rw [hks]⟩
    · have ei : i = k := by omega
      subst ei
      (repeat' first | simp -dsimp (disch := first | omega | assumption | (refine OkS.sto ?_ (by omega); first | assumption | (refine OkS.sto ?_ (by omega); first | assumption | (refine OkS.sto ?_ (by omega); first | assumption | (refine OkS.sto ?_ (by omega); first | assumption | (refine OkS.sto ?_ (by omega); first | assumption | (refine OkS.sto ?_ (by omega); first | assumption)))))) | exact Pfx.refl _ | (apply Pfx.snoc; repeat (first | exact Pfx.refl _ | assumption | apply Pfx.snoc)) | with_unfolding_all exact of_eq_true (eq_true rfl) | (simp only [List.length_append, List.length_cons, List.length_nil]; omega)) only [↓wpre0, ↓wpre1, ↓reduceIte, Int.reduceToNat, Nat.reduceAdd, Nat.reduceMul, Nat.reduceEqDiff, wpost0, wpost1, wpost2, wpost3, wpost4, ite_self, ite_true, ite_false, if_true, if_false, bin_lss, bin_sub, bin_mul, bin_add, bin_quo, fr241, wrap_int, wrap_u8, iteP_yes, iteP_no, g0, g5, g7, g8] | refine iteP_two (fun hc hd => ?_) (fun hc hd => ?_) | refine iteP_intro (fun hc => ?_) (fun hc => ?_))
def nf32 (z : Int) : Nat := cf .f32 (FloatKind.f32.nearest z)
def nf64 (z : Int) : Nat := cf .f64 (FloatKind.f64.nearest z)
def xqF (n k : Nat) : Nat := farith .quo .f64 (nf64 ((k : Int) + 1)) (nf64 ((n : Int) + 1))
def qqF (n k : Nat) : Nat := 4 * (k + 1) / (n + 1)
/-- A number of a taper. -/
def tpF (c n k : Nat) : Nat :=
  if c = 0 then 1065353216 else if c = 1 then farith .quo .f32 (farith .mul .f32 1073741824 (nf32 (min ((k : Int) + 1) ((n : Int) - k)))) (nf32 ((n : Int) + 1))
  else if c = 2 then farith .sub .f32 1056964608 (farith .quo .f32 (phG (xqF n k) (qqF n k)).a 1073741824)
  else farith .quo .f32 (nf32 (wyF (n - 1) k : Nat)) (nf32 (wyF (n - 1) ((n - 1) / 2) : Nat))
def tri (f : Nat → Nat → Bool) : Nat → Bool
  | 0 => true
  | n + 1 => tri f n && (List.range (n + 1)).all (f (n + 1))
theorem tri_at {f : Nat → Nat → Bool} : ∀ {m : Nat}, tri f m = true → ∀ n k, n ≤ m → k < n → f n k = true
  | 0, _, n, k, h, hk => by omega
  | m + 1, h, n, k, hn, hk => by
    simp only [tri, Bool.and_eq_true] at h
    by_cases e : n = m + 1
    · subst e
      exact (List.all_eq_true.1 h.2) k (List.mem_range.2 hk)
    · exact tri_at h.1 n k (by omega) hk
end Go.Proofs.Ytelogajobjflfaa.Sim

/- The numbers of all tapers. Lemmas only; no condition. Printed by gentp.py. -/
set_option linter.unusedSimpArgs false
set_option linter.unusedVariables false
set_option maxRecDepth 8000
namespace Go.Proofs.Ytelogajobjflfaa.Sim
open Go Go.RowKit Fl
def tpT0 : List (List Nat) := [[], [1065353216], [1065353216, 1065353216], [1065353216, 1065353216, 1065353216], [1065353216, 1065353216, 1065353216, 1065353216], [1065353216, 1065353216, 1065353216, 1065353216, 1065353216], [1065353216, 1065353216, 1065353216, 1065353216, 1065353216, 1065353216], [1065353216, 1065353216, 1065353216, 1065353216, 1065353216, 1065353216, 1065353216], [1065353216, 1065353216, 1065353216, 1065353216, 1065353216, 1065353216, 1065353216, 1065353216], [1065353216, 1065353216, 1065353216, 1065353216, 1065353216, 1065353216, 1065353216, 1065353216, 1065353216], [1065353216, 1065353216, 1065353216, 1065353216, 1065353216, 1065353216, 1065353216, 1065353216, 1065353216, 1065353216], [1065353216, 1065353216, 1065353216, 1065353216, 1065353216, 1065353216, 1065353216, 1065353216, 1065353216, 1065353216, 1065353216], [1065353216, 1065353216, 1065353216, 1065353216, 1065353216, 1065353216, 1065353216, 1065353216, 1065353216, 1065353216, 1065353216, 1065353216], [1065353216, 1065353216, 1065353216, 1065353216, 1065353216, 1065353216, 1065353216, 1065353216, 1065353216, 1065353216, 1065353216, 1065353216, 1065353216], [1065353216, 1065353216, 1065353216, 1065353216, 1065353216, 1065353216, 1065353216, 1065353216, 1065353216, 1065353216, 1065353216, 1065353216, 1065353216, 1065353216], [1065353216, 1065353216, 1065353216, 1065353216, 1065353216, 1065353216, 1065353216, 1065353216, 1065353216, 1065353216, 1065353216, 1065353216, 1065353216, 1065353216, 1065353216], [1065353216, 1065353216, 1065353216, 1065353216, 1065353216, 1065353216, 1065353216, 1065353216, 1065353216, 1065353216, 1065353216, 1065353216, 1065353216, 1065353216, 1065353216, 1065353216]]
def tpT1 : List (List Nat) := [[], [1065353216], [1059760811, 1059760811], [1056964608, 1065353216, 1056964608], [1053609165, 1061997773, 1061997773, 1053609165], [1051372203, 1059760811, 1065353216, 1059760811, 1051372203], [1049774373, 1058162981, 1062956471, 1062956471, 1058162981, 1049774373], [1048576000, 1056964608, 1061158912, 1065353216, 1061158912, 1056964608, 1048576000], [1046711865, 1055100473, 1059760811, 1063489081, 1063489081, 1059760811, 1055100473, 1046711865], [1045220557, 1053609165, 1058642330, 1061997773, 1065353216, 1061997773, 1058642330, 1053609165, 1045220557], [1044000396, 1052389004, 1057727209, 1060777612, 1063828015, 1063828015, 1060777612, 1057727209, 1052389004, 1044000396], [1042983595, 1051372203, 1056964608, 1059760811, 1062557013, 1065353216, 1062557013, 1059760811, 1056964608, 1051372203, 1042983595], [1042123225, 1050511833, 1055674053, 1058900441, 1061481551, 1064062661, 1064062661, 1061481551, 1058900441, 1055674053, 1050511833, 1042123225], [1041385765, 1049774373, 1054567863, 1058162981, 1060559726, 1062956471, 1065353216, 1062956471, 1060559726, 1058162981, 1054567863, 1049774373, 1041385765], [1040746633, 1049135241, 1053609165, 1057523849, 1059760811, 1061997773, 1064234735, 1064234735, 1061997773, 1059760811, 1057523849, 1053609165, 1049135241, 1040746633], [1040187392, 1048576000, 1052770304, 1056964608, 1059061760, 1061158912, 1063256064, 1065353216, 1063256064, 1061158912, 1059061760, 1056964608, 1052770304, 1048576000, 1040187392], [1039200497, 1047589105, 1052030133, 1055977713, 1058444951, 1060418741, 1062392531, 1064366321, 1064366321, 1062392531, 1060418741, 1058444951, 1055977713, 1052030133, 1047589105, 1039200497]]
def tpT2 : List (List Nat) := [[], [1065353216], [1061158912, 1061158912], [1056964608, 1065353216, 1056964608], [1051780163, 1063751134, 1063751134, 1051780163], [1048576000, 1061158912, 1065353216, 1061158912, 1048576000], [1044432370, 1058831249, 1064522482, 1064522482, 1058831249, 1044432370], [1041626650, 1056964608, 1062896250, 1065353216, 1062896250, 1056964608, 1041626650], [1039110668, 1054051275, 1061158912, 1064847321, 1064847321, 1061158912, 1054051275, 1039110668], [1036226828, 1051780163, 1059556830, 1063751134, 1065353216, 1063751134, 1059556830, 1051780163, 1036226828], [1034063472, 1049995100, 1058158431, 1062457978, 1065013418, 1065013418, 1062457978, 1058158431, 1049995100, 1034063472], [1032401060, 1048576000, 1056964608, 1061158912, 1064229356, 1065353216, 1064229356, 1061158912, 1056964608, 1048576000, 1032401060], [1030395400, 1046292126, 1054942338, 1059939250, 1063243572, 1065109458, 1065109458, 1063243572, 1059939250, 1054942338, 1046292126, 1030395400], [1028313304, 1044432370, 1053231326, 1058831249, 1062194820, 1064522482, 1065353216, 1064522482, 1062194820, 1058831249, 1053231326, 1044432370, 1028313304], [1026625304, 1042900918, 1051780163, 1057841456, 1061158912, 1063751134, 1065169905, 1065169905, 1063751134, 1061158912, 1057841456, 1051780163, 1042900918, 1026625304], [1025238288, 1041626650, 1050544246, 1056964608, 1060174789, 1062896250, 1064714671, 1065353216, 1064714671, 1062896250, 1060174789, 1056964608, 1050544246, 1041626650, 1025238288], [1024084992, 1040556192, 1049486360, 1055416602, 1059260260, 1062019874, 1064096746, 1065210384, 1065210384, 1064096746, 1062019874, 1059260260, 1055416602, 1049486360, 1040556192, 1024084992]]
def tpT3 : List (List Nat) := [[], [1065353216], [1065353216, 1065353216], [1056964608, 1065353216, 1056964608], [1051372203, 1065353216, 1065353216, 1051372203], [1042983595, 1059760811, 1065353216, 1059760811, 1042983595], [1036831949, 1056964608, 1065353216, 1065353216, 1056964608, 1036831949], [1028443341, 1050253722, 1061158912, 1065353216, 1061158912, 1050253722, 1028443341], [1021972129, 1045220557, 1058642330, 1065353216, 1065353216, 1058642330, 1045220557, 1021972129], [1013583521, 1038749345, 1053609165, 1061997773, 1065353216, 1061997773, 1053609165, 1038749345, 1013583521], [1006766113, 1032997157, 1049774373, 1059760811, 1065353216, 1065353216, 1059760811, 1049774373, 1032997157, 1006766113], [998377505, 1025673769, 1043782510, 1056165693, 1062557013, 1065353216, 1062557013, 1056165693, 1043782510, 1025673769, 998377505], [990763602, 1019415601, 1039388477, 1052171118, 1060559726, 1065353216, 1065353216, 1060559726, 1052171118, 1039388477, 1019415601, 990763602], [982374994, 1012189051, 1032997157, 1047777085, 1057563794, 1062956471, 1065353216, 1062956471, 1057563794, 1047777085, 1032997157, 1012189051, 982374994], [974701499, 1006124560, 1027223180, 1042983595, 1054168405, 1061158912, 1065353216, 1065353216, 1061158912, 1054168405, 1042983595, 1027223180, 1006124560, 974701499], [966312891, 998615875, 1020868174, 1037645390, 1049974101, 1058362709, 1063256064, 1065353216, 1063256064, 1058362709, 1049974101, 1037645390, 1020868174, 998615875, 966312891], [958591721, 991478715, 1015393091, 1032900318, 1046033998, 1055846127, 1061624946, 1065353216, 1065353216, 1061624946, 1055846127, 1046033998, 1032900318, 1015393091, 991478715, 958591721]]
def tpL (c n k : Nat) : Nat := (((if c = 0 then tpT0 else if c = 1 then tpT1 else if c = 2 then tpT2 else tpT3).getD n []).getD k 0)
def tpRow (c n : Nat) : Bool := (List.range n).all fun k => tpF c n k == tpL c n k
def phRow (n : Nat) : Bool := (List.range n).all fun k => phOk (xqF n k) (qqF n k)
theorem tp_all0 : (List.range 17).all (tpRow 0) = true := by kernel_rfl
theorem tp_all1 : (List.range 17).all (tpRow 1) = true := by kernel_rfl
theorem tp_all3 : (List.range 17).all (tpRow 3) = true := by kernel_rfl
theorem tp_two0 : tpRow 2 0 = true := by kernel_rfl
theorem ph_row0 : phRow 0 = true := by kernel_rfl
theorem tp_two1 : tpRow 2 1 = true := by kernel_rfl
theorem ph_row1 : phRow 1 = true := by kernel_rfl
theorem tp_two2 : tpRow 2 2 = true := by kernel_rfl
theorem ph_row2 : phRow 2 = true := by kernel_rfl
theorem tp_two3 : tpRow 2 3 = true := by kernel_rfl
theorem ph_row3 : phRow 3 = true := by kernel_rfl
theorem tp_two4 : tpRow 2 4 = true := by kernel_rfl
theorem ph_row4 : phRow 4 = true := by kernel_rfl
theorem tp_two5 : tpRow 2 5 = true := by kernel_rfl
theorem ph_row5 : phRow 5 = true := by kernel_rfl
theorem tp_two6 : tpRow 2 6 = true := by kernel_rfl
theorem ph_row6 : phRow 6 = true := by kernel_rfl
theorem tp_two7 : tpRow 2 7 = true := by kernel_rfl
theorem ph_row7 : phRow 7 = true := by kernel_rfl
theorem tp_two8 : tpRow 2 8 = true := by kernel_rfl
theorem ph_row8 : phRow 8 = true := by kernel_rfl
theorem tp_two9 : tpRow 2 9 = true := by kernel_rfl
theorem ph_row9 : phRow 9 = true := by kernel_rfl
theorem tp_two10 : tpRow 2 10 = true := by kernel_rfl
theorem ph_row10 : phRow 10 = true := by kernel_rfl
theorem tp_two11 : tpRow 2 11 = true := by kernel_rfl
theorem ph_row11 : phRow 11 = true := by kernel_rfl
theorem tp_two12 : tpRow 2 12 = true := by kernel_rfl
theorem ph_row12 : phRow 12 = true := by kernel_rfl
theorem tp_two13 : tpRow 2 13 = true := by kernel_rfl
theorem ph_row13 : phRow 13 = true := by kernel_rfl
theorem tp_two14 : tpRow 2 14 = true := by kernel_rfl
theorem ph_row14 : phRow 14 = true := by kernel_rfl
theorem tp_two15 : tpRow 2 15 = true := by kernel_rfl
theorem ph_row15 : phRow 15 = true := by kernel_rfl
theorem tp_two16 : tpRow 2 16 = true := by kernel_rfl
theorem ph_row16 : phRow 16 = true := by kernel_rfl
theorem row_ph {n : Nat} (hn : n ≤ 16) : phRow n = true := by
  have h : n = 0 ∨ n = 1 ∨ n = 2 ∨ n = 3 ∨ n = 4 ∨ n = 5 ∨ n = 6 ∨ n = 7 ∨ n = 8 ∨ n = 9 ∨ n = 10 ∨ n = 11 ∨ n = 12 ∨ n = 13 ∨ n = 14 ∨ n = 15 ∨ n = 16 := by omega
  rcases h with rfl | rfl | rfl | rfl | rfl | rfl | rfl | rfl | rfl | rfl | rfl | rfl | rfl | rfl | rfl | rfl | rfl
  · exact ph_row0
  · exact ph_row1
  · exact ph_row2
  · exact ph_row3
  · exact ph_row4
  · exact ph_row5
  · exact ph_row6
  · exact ph_row7
  · exact ph_row8
  · exact ph_row9
  · exact ph_row10
  · exact ph_row11
  · exact ph_row12
  · exact ph_row13
  · exact ph_row14
  · exact ph_row15
  · exact ph_row16
theorem row_two {n : Nat} (hn : n ≤ 16) : tpRow 2 n = true := by
  have h : n = 0 ∨ n = 1 ∨ n = 2 ∨ n = 3 ∨ n = 4 ∨ n = 5 ∨ n = 6 ∨ n = 7 ∨ n = 8 ∨ n = 9 ∨ n = 10 ∨ n = 11 ∨ n = 12 ∨ n = 13 ∨ n = 14 ∨ n = 15 ∨ n = 16 := by omega
  rcases h with rfl | rfl | rfl | rfl | rfl | rfl | rfl | rfl | rfl | rfl | rfl | rfl | rfl | rfl | rfl | rfl | rfl
  · exact tp_two0
  · exact tp_two1
  · exact tp_two2
  · exact tp_two3
  · exact tp_two4
  · exact tp_two5
  · exact tp_two6
  · exact tp_two7
  · exact tp_two8
  · exact tp_two9
  · exact tp_two10
  · exact tp_two11
  · exact tp_two12
  · exact tp_two13
  · exact tp_two14
  · exact tp_two15
  · exact tp_two16
theorem row_tp {c n : Nat} (hc : c < 4) (hn : n ≤ 16) : tpRow c n = true := by
  match c, hc with
  | 0, _ => exact (List.all_eq_true.1 tp_all0) n (List.mem_range.2 (by omega))
  | 1, _ => exact (List.all_eq_true.1 tp_all1) n (List.mem_range.2 (by omega))
  | 2, _ => exact row_two hn
  | 3, _ => exact (List.all_eq_true.1 tp_all3) n (List.mem_range.2 (by omega))
theorem tp_at {c n k : Nat} (hc : c < 4) (hn : n ≤ 16) (hk : k < n) : tpF c n k = tpL c n k := eq_of_beq ((List.all_eq_true.1 (row_tp hc hn)) k (List.mem_range.2 hk))
theorem ph_at {n k : Nat} (hn : n ≤ 16) (hk : k < n) : phOk (xqF n k) (qqF n k) = true := (List.all_eq_true.1 (row_ph hn)) k (List.mem_range.2 hk)
end Go.Proofs.Ytelogajobjflfaa.Sim
