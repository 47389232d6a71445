/- Matrices: unit, times a row, forms; whether they are Hermitian or the same. Lemmas only; no condition. -/
import Derived.Test.YtelogajobjflfaaMtf
import Derived.Test.YtelogajobjflfaaMth
set_option linter.unusedSimpArgs false
set_option linter.unusedVariables false
set_option maxRecDepth 8000
namespace Go.Proofs.Ytelogajobjflfaa.Sim
open Go Go.RowKit Fl
variable {ro lo lo' : Nat} {X : Ext} {h : Heap} {x y : Value} {n p q s : Nat} {f g : Nat → CB} {M K : Nat → Nat → CB}
def oneB : CB := ⟨1065353216, 0⟩
def unitB (i j : Nat) : CB := if i = j then oneB else zeroB
theorem unit_r (hX : XN X) (i j : Nat) (H : Heap) : Ret Try.prog ro X 120 [.int .i64 i, .int .i64 j] H (toV (unitB i j)) := by
  by_cases e : i = j
  · rw [unitB, if_pos e]
    refine ret_of (callR_of (hX _ rfl) Try.func120 rfl (by kernel_rfl) (Nat.le_of_ble_eq_true rfl) ?_)
    (repeat' first | simp -dsimp (disch := first | omega | assumption | (refine OkS.sto ?_ (by omega); first | assumption | (refine OkS.sto ?_ (by omega); first | assumption | (refine OkS.sto ?_ (by omega); first | assumption | (refine OkS.sto ?_ (by omega); first | assumption | (refine OkS.sto ?_ (by omega); first | assumption | (refine OkS.sto ?_ (by omega); first | assumption)))))) | exact Pfx.refl _ | (apply Pfx.snoc; repeat (first | exact Pfx.refl _ | assumption | apply Pfx.snoc)) | with_unfolding_all exact of_eq_true (eq_true rfl) | (simp only [List.length_append, List.length_cons, List.length_nil]; omega)) only [↓wpre0, ↓wpre1, ↓reduceIte, Int.reduceToNat, Nat.reduceAdd, Nat.reduceMul, Nat.reduceEqDiff, wpost0, wpost1, wpost2, wpost3, wpost4, ite_self, ite_true, ite_false, if_true, if_false, bin_eql, fr120, wrap_int, wrap_u8, iteP_yes, iteP_no] | refine iteP_two (fun hc hd => ?_) (fun hc hd => ?_) | refine iteP_intro (fun hc => ?_) (fun hc => ?_))
    rfl
  · rw [unitB, if_neg e]
    refine ret_of (callR_of (hX _ rfl) Try.func120 rfl (by kernel_rfl) (Nat.le_of_ble_eq_true rfl) ?_)
    (repeat' first | simp -dsimp (disch := first | omega | assumption | (refine OkS.sto ?_ (by omega); first | assumption | (refine OkS.sto ?_ (by omega); first | assumption | (refine OkS.sto ?_ (by omega); first | assumption | (refine OkS.sto ?_ (by omega); first | assumption | (refine OkS.sto ?_ (by omega); first | assumption | (refine OkS.sto ?_ (by omega); first | assumption)))))) | exact Pfx.refl _ | (apply Pfx.snoc; repeat (first | exact Pfx.refl _ | assumption | apply Pfx.snoc)) | with_unfolding_all exact of_eq_true (eq_true rfl) | (simp only [List.length_append, List.length_cons, List.length_nil]; omega)) only [↓wpre0, ↓wpre1, ↓reduceIte, Int.reduceToNat, Nat.reduceAdd, Nat.reduceMul, Nat.reduceEqDiff, wpost0, wpost1, wpost2, wpost3, wpost4, ite_self, ite_true, ite_false, if_true, if_false, bin_eql, fr120, wrap_int, wrap_u8, iteP_yes, iteP_no] | refine iteP_two (fun hc hd => ?_) (fun hc hd => ?_) | refine iteP_intro (fun hc => ?_) (fun hc => ?_))
    rfl
theorem Unit_c (hX : XN X) (hp : 1 ≤ p) (hp8 : p ≤ 8) (hro : ro ≤ h.length) : CallR Try.prog ro X 26 [.int .i64 p] h (fun r h' => NewT h p p unitB (r, h')) := by
  have hw1 : (decide ((1 : Int) ≤ (p : Int)) && decide ((p : Int) ≤ 8)) = true := by simp; omega
  refine callR_of (hX _ rfl) Try.func26 rfl (by kernel_rfl) (Nat.le_of_ble_eq_true rfl) ?_
  (repeat' first | simp -dsimp (disch := first | omega | assumption | (refine OkS.sto ?_ (by omega); first | assumption | (refine OkS.sto ?_ (by omega); first | assumption | (refine OkS.sto ?_ (by omega); first | assumption | (refine OkS.sto ?_ (by omega); first | assumption | (refine OkS.sto ?_ (by omega); first | assumption | (refine OkS.sto ?_ (by omega); first | assumption)))))) | exact Pfx.refl _ | (apply Pfx.snoc; repeat (first | exact Pfx.refl _ | assumption | apply Pfx.snoc)) | with_unfolding_all exact of_eq_true (eq_true rfl) | (simp only [List.length_append, List.length_cons, List.length_nil]; omega)) only [↓wpre0, ↓wpre1, ↓reduceIte, Int.reduceToNat, Nat.reduceAdd, Nat.reduceMul, Nat.reduceEqDiff, wpost0, wpost1, wpost2, wpost3, wpost4, ite_self, ite_true, ite_false, if_true, if_false, tze38, un_not, xbld38, xst38, xld38, fr26, wrap_int, wrap_u8, iteP_yes, iteP_no, withinM_r hX, hw1] | refine iteP_two (fun hc hd => ?_) (fun hc hd => ?_) | refine iteP_intro (fun hc => ?_) (fun hc => ?_))
  obtain ⟨H0, hH0⟩ : ∃ H0, H0 = h ++ [(⟨38, [.slice none 0 0]⟩ : Blk)] := ⟨_, rfl⟩
  have p0 : Pfx h H0 := by rw [hH0]; exact (Pfx.refl h).snoc
  have l0 : H0.length = h.length + 1 := by rw [hH0]; simp
  have D1 : H0[h.length]? = some ⟨38, [.slice none 0 0]⟩ := by rw [hH0]; exact get_last rfl
  rw [← hH0]
  refine cf_rel (matrixBy_c hX (p := p) (q := p) (M := unitB) 120 [] (by omega) (by omega) (by omega) (fun H i j hH hi hj => unit_r hX i j H)) (fun q => by cases q) ?_
  rintro r H1 ⟨z, rfl, p1, mZ, hnf⟩
  have lp1 := p1.len
  have E2 : H1[h.length]? = some ⟨38, [.slice none 0 0]⟩ := by rw [p1.get (by omega)]; exact D1
  have hsz : one z = true := by
    obtain ⟨R', hR', _⟩ := mZ
    exact hR'.shape.2.2
  have P2 : put ro H1 h.length 0 1 (matV z) = some (H1.set h.length ⟨38, [z]⟩) := putb (n := 1) (o := 0) E2 (by omega) rfl (by simp) (by simp [cellsOf, hsz])
  have C2 : cells (H1.set h.length ⟨38, [z]⟩) h.length 0 1 = some (.agg ⟨[z]⟩) := cells_set (o := 0) (n := 1) (by omega) (by simp)
  have mS := (mZ.set (b := h.length) (C := ⟨38, [z]⟩) (by omega)).low (show h.length ≤ H0.length + 2 by omega)
  have pS : Pfx h (H1.set h.length ⟨38, [z]⟩) := (p0.trans p1).set (by omega)
  have hnt : Sim.flat (.tuple ⟨[matV z, .bool true]⟩) = false := by
    obtain ⟨R', hR', _⟩ := mZ
    rcases hR'.2 with ⟨_, rfl⟩ | ⟨b, o, cap, Bk, rfl, _⟩ <;> rfl
  (repeat' first | simp -dsimp (disch := first | omega | assumption | (refine OkS.sto ?_ (by omega); first | assumption | (refine OkS.sto ?_ (by omega); first | assumption | (refine OkS.sto ?_ (by omega); first | assumption | (refine OkS.sto ?_ (by omega); first | assumption | (refine OkS.sto ?_ (by omega); first | assumption | (refine OkS.sto ?_ (by omega); first | assumption)))))) | exact Pfx.refl _ | (apply Pfx.snoc; repeat (first | exact Pfx.refl _ | assumption | apply Pfx.snoc)) | with_unfolding_all exact of_eq_true (eq_true rfl) | (simp only [List.length_append, List.length_cons, List.length_nil]; omega)) only [↓wpre0, ↓wpre1, ↓reduceIte, Int.reduceToNat, Nat.reduceAdd, Nat.reduceMul, Nat.reduceEqDiff, wpost0, wpost1, wpost2, wpost3, wpost4, ite_self, ite_true, ite_false, if_true, if_false, tze38, un_not, xbld38, xst38, xld38, fr26, wrap_int, wrap_u8, iteP_yes, iteP_no, P2, C2, endH_not hnt] | refine iteP_two (fun hc hd => ?_) (fun hc hd => ?_) | refine iteP_intro (fun hc => ?_) (fun hc => ?_))
  exact ⟨z, rfl, pS, mS⟩
set_option maxHeartbeats 2000000 in
theorem MulVec_c (hX : XN X) (m : MatB lo h x p q M) (r : RowB lo' h y q f) (hp : 1 ≤ p) (hp8 : p ≤ 8) (hq : 1 ≤ q) (hq8 : q ≤ 8) (hro : ro ≤ h.length) (hok : ∀ i t, i < p → t < q → okM (M i t) (f t)) :
    CallR Try.prog ro X 30 [matV x, y] h (fun r h' => ∃ z, r = .tuple ⟨[z, .bool true]⟩ ∧ Pfx h h' ∧ RowB h.length h' z p (fun i => dotB (M i) f q)) := by
  obtain ⟨R, hR, hrow⟩ := id m
  have hb := box_mat hR h
  refine callR_of (hX _ rfl) Try.func30 rfl (by kernel_rfl) (Nat.le_of_ble_eq_true rfl) ?_
  (repeat' first | simp -dsimp (disch := first | omega | assumption | (refine OkS.sto ?_ (by omega); first | assumption | (refine OkS.sto ?_ (by omega); first | assumption | (refine OkS.sto ?_ (by omega); first | assumption | (refine OkS.sto ?_ (by omega); first | assumption | (refine OkS.sto ?_ (by omega); first | assumption | (refine OkS.sto ?_ (by omega); first | assumption)))))) | exact Pfx.refl _ | (apply Pfx.snoc; repeat (first | exact Pfx.refl _ | assumption | apply Pfx.snoc)) | with_unfolding_all exact of_eq_true (eq_true rfl) | (simp only [List.length_append, List.length_cons, List.length_nil]; omega)) only [↓wpre0, ↓wpre1, ↓reduceIte, Int.reduceToNat, Nat.reduceAdd, Nat.reduceMul, Nat.reduceEqDiff, wpost0, wpost1, wpost2, wpost3, wpost4, ite_self, ite_true, ite_false, if_true, if_false, xld38, un_not, xlen44, xfad38_0, xld36, xiad36, xld44, bin_neq, xbls44_0, xbls44_1, xlen36, bin_lss, bin_add, fr30, wrap_int, wrap_u8, iteP_yes, iteP_no, hb] | refine iteP_two (fun hc hd => ?_) (fun hc hd => ?_) | refine iteP_intro (fun hc => ?_) (fun hc => ?_))
  obtain ⟨H0, hH0⟩ : ∃ H0, H0 = h ++ [(⟨38, [x]⟩ : Blk)] := ⟨_, rfl⟩
  have p0 : Pfx h H0 := by rw [hH0]; exact (Pfx.refl h).snoc
  have l0 : H0.length = h.length + 1 := by rw [hH0]; simp
  have D0 : H0[h.length]? = some ⟨38, [x]⟩ := by rw [hH0]; exact get_last rfl
  have c0 : cell H0 h.length 0 = some x := cellb D0
  have C0 : cells H0 h.length 0 1 = some (.agg ⟨[x]⟩) := cellsb (n := 1) (o := 0) D0 (by simp)
  rw [← hH0]
  have mH := MatB.pre m p0
  have hR0 : VS lo H0.length 1 H0 x p R := (hR.pre p0).wide (Nat.le_refl _) p0.len
  have hl0 := mat_ld0 hR0 hp
  have r0 := (hrow 0 (by omega)).pre p0
  have rH := RowB.pre r p0
  (repeat' first | simp -dsimp (disch := first | omega | assumption | (refine OkS.sto ?_ (by omega); first | assumption | (refine OkS.sto ?_ (by omega); first | assumption | (refine OkS.sto ?_ (by omega); first | assumption | (refine OkS.sto ?_ (by omega); first | assumption | (refine OkS.sto ?_ (by omega); first | assumption | (refine OkS.sto ?_ (by omega); first | assumption)))))) | exact Pfx.refl _ | (apply Pfx.snoc; repeat (first | exact Pfx.refl _ | assumption | apply Pfx.snoc)) | with_unfolding_all exact of_eq_true (eq_true rfl) | (simp only [List.length_append, List.length_cons, List.length_nil]; omega)) only [↓wpre0, ↓wpre1, ↓reduceIte, Int.reduceToNat, Nat.reduceAdd, Nat.reduceMul, Nat.reduceEqDiff, wpost0, wpost1, wpost2, wpost3, wpost4, ite_self, ite_true, ite_false, if_true, if_false, xld38, un_not, xlen44, xfad38_0, xld36, xiad36, xld44, bin_neq, xbls44_0, xbls44_1, xlen36, bin_lss, bin_add, fr30, wrap_int, wrap_u8, iteP_yes, iteP_no, C0, Valid_r hX mH hp hp8 hq hq8, c0, hR0.iad Try.underlying36 tsz44, hR0.len Try.underlying36, hl0, r0.len, rH.len] | refine iteP_two (fun hc hd => ?_) (fun hc hd => ?_) | refine iteP_intro (fun hc => ?_) (fun hc => ?_))
  refine loop_rounds (fun mm e h' => ∃ (i : Nat) (z : Value), mm = p - i ∧ i ≤ p ∧ e 1 = y ∧ e 6 = z ∧ e 24 = x ∧ e 25 = .int .i64 p ∧ e 26 = .int .i64 i ∧ Pfx h h' ∧ VG h.length 46 1 h' z i (rowV i fun i => dotB (M i) f q)) _ ⟨0, .slice (some ⟨H0.length, 0, none⟩) 0 0, rfl, ?_⟩ ?_
  · simp only [updO_at, updO_not, entry_at, List.getD_cons_zero, List.getD_cons_succ, ↓reduceIte, Nat.reduceEqDiff, true_and, and_true]
    have z : rowV 0 (fun i => dotB (M i) f q) = [] := rfl
    rw [z]
    have v0 := vg_new (lo := h.length) (t := 46) (k := 1) H0 (by omega)
    have q0 : Pfx h (H0 ++ [(⟨46, []⟩ : Blk)]) := p0.snoc
    (repeat' (first | assumption | rfl | omega | refine And.intro ?_ ?_))
  · rintro mm e h' ⟨i, z, hmm, hle, g1, g6, g24, g25, g26, hp1, hY⟩
    have hl := hp1.len
    have hks : (i : Int) + 1 = ((i + 1 : Nat) : Int) := by omega
    by_cases hin : i < p
    · have hRi := hR.pre hp1
      have hld := vs_ld hRi hin
      obtain ⟨H, ap, vg, old, hlen⟩ := acc1 (P := Try.prog) (ro := ro) (T := 44) (h := h') (v := toV (dotB (M i) f q)) tel44 tsz46 tby46 tze46 (.inl hY) hro hl rfl (by omega) (by omega)
      have vg' : VG h.length 46 1 H (.slice (some ⟨h'.length + 1, 0, none⟩) (i + 1) (i + 1 + 1)) (i + 1) (rowV (i + 1) fun i => dotB (M i) f q) := by rw [rowV_succ]; exact vg
      have pH := old.1 h hp1 (Nat.le_refl _)
      (repeat' first | simp -dsimp (disch := first | omega | assumption | (refine OkS.sto ?_ (by omega); first | assumption | (refine OkS.sto ?_ (by omega); first | assumption | (refine OkS.sto ?_ (by omega); first | assumption | (refine OkS.sto ?_ (by omega); first | assumption | (refine OkS.sto ?_ (by omega); first | assumption | (refine OkS.sto ?_ (by omega); first | assumption)))))) | exact Pfx.refl _ | (apply Pfx.snoc; repeat (first | exact Pfx.refl _ | assumption | apply Pfx.snoc)) | with_unfolding_all exact of_eq_true (eq_true rfl) | (simp only [List.length_append, List.length_cons, List.length_nil]; omega)) only [↓wpre0, ↓wpre1, ↓reduceIte, Int.reduceToNat, Nat.reduceAdd, Nat.reduceMul, Nat.reduceEqDiff, wpost0, wpost1, wpost2, wpost3, wpost4, ite_self, ite_true, ite_false, if_true, if_false, xld38, un_not, xlen44, xfad38_0, xld36, xiad36, xld44, bin_neq, xbls44_0, xbls44_1, xlen36, bin_lss, bin_add, fr30, wrap_int, wrap_u8, iteP_yes, iteP_no, g1, g6, g24, g25, g26, hRi.iad Try.underlying36 tsz44, hld, dot_r hX ((hrow i hin).pre hp1) (RowB.pre r hp1) (by omega) (fun t ht => hok i t hin ht), ap] | refine iteP_two (fun hc hd => ?_) (fun hc hd => ?_) | refine iteP_intro (fun hc => ?_) (fun hc => ?_))
      refine ⟨p - (i + 1), by omega, i + 1, .slice (some ⟨h'.length + 1, 0, none⟩) (i + 1) (i + 1 + 1), ?_⟩
      (repeat' (first | assumption | rfl | omega | (rw [hks]) | refine And.intro ?_ ?_))
    · have : i = p := by omega
      subst this
      have hnf : Sim.flat (.tuple ⟨[z, .bool true]⟩) = false := by obtain ⟨_, b, cap, rfl, _⟩ := hY; rfl
      (repeat' first | simp -dsimp (disch := first | omega | assumption | (refine OkS.sto ?_ (by omega); first | assumption | (refine OkS.sto ?_ (by omega); first | assumption | (refine OkS.sto ?_ (by omega); first | assumption | (refine OkS.sto ?_ (by omega); first | assumption | (refine OkS.sto ?_ (by omega); first | assumption | (refine OkS.sto ?_ (by omega); first | assumption)))))) | exact Pfx.refl _ | (apply Pfx.snoc; repeat (first | exact Pfx.refl _ | assumption | apply Pfx.snoc)) | with_unfolding_all exact of_eq_true (eq_true rfl) | (simp only [List.length_append, List.length_cons, List.length_nil]; omega)) only [↓wpre0, ↓wpre1, ↓reduceIte, Int.reduceToNat, Nat.reduceAdd, Nat.reduceMul, Nat.reduceEqDiff, wpost0, wpost1, wpost2, wpost3, wpost4, ite_self, ite_true, ite_false, if_true, if_false, xld38, un_not, xlen44, xfad38_0, xld36, xiad36, xld44, bin_neq, xbls44_0, xbls44_1, xlen36, bin_lss, bin_add, fr30, wrap_int, wrap_u8, iteP_yes, iteP_no, g1, g6, g24, g25, g26, endH_not hnf] | refine iteP_two (fun hc hd => ?_) (fun hc hd => ?_) | refine iteP_intro (fun hc => ?_) (fun hc => ?_))
      exact ⟨z, rfl, hp1, hY.vsl⟩
theorem Square_r (hX : XN X) (m : MatB lo h x p p M) (hp : 1 ≤ p) (hp8 : p ≤ 8) : Ret Try.prog ro X 121 [matV x] h (.bool true) := by
  obtain ⟨R, hR, hrow⟩ := id m
  have hb := box_mat hR h
  have D0 : (h ++ [(⟨38, [x]⟩ : Blk)])[h.length]? = some ⟨38, [x]⟩ := get_last rfl
  have p0 : Pfx h (h ++ [(⟨38, [x]⟩ : Blk)]) := (Pfx.refl h).snoc
  have c0 := cellb (o := 0) D0
  have C0 : cells (h ++ [(⟨38, [x]⟩ : Blk)]) h.length 0 1 = some (.agg ⟨[x]⟩) := cellsb (n := 1) (o := 0) D0 (by simp)
  have mH := MatB.pre m p0
  have hR0 : VS lo (h ++ [(⟨38, [x]⟩ : Blk)]).length 1 (h ++ [(⟨38, [x]⟩ : Blk)]) x p R := (hR.pre p0).wide (Nat.le_refl _) p0.len
  have hl0 := mat_ld0 hR0 hp
  have r0 := (hrow 0 (by omega)).pre p0
  have ef : ∀ b, endH (.bool b) h (h ++ [(⟨38, [x]⟩ : Blk)]) = h := fun b => endH_flat rfl p0
  refine ret_of (callR_of (hX _ rfl) Try.func121 rfl (by kernel_rfl) (Nat.le_of_ble_eq_true rfl) ?_)
  (repeat' first | simp -dsimp (disch := first | omega | assumption | (refine OkS.sto ?_ (by omega); first | assumption | (refine OkS.sto ?_ (by omega); first | assumption | (refine OkS.sto ?_ (by omega); first | assumption | (refine OkS.sto ?_ (by omega); first | assumption | (refine OkS.sto ?_ (by omega); first | assumption | (refine OkS.sto ?_ (by omega); first | assumption)))))) | exact Pfx.refl _ | (apply Pfx.snoc; repeat (first | exact Pfx.refl _ | assumption | apply Pfx.snoc)) | with_unfolding_all exact of_eq_true (eq_true rfl) | (simp only [List.length_append, List.length_cons, List.length_nil]; omega)) only [↓wpre0, ↓wpre1, ↓reduceIte, Int.reduceToNat, Nat.reduceAdd, Nat.reduceMul, Nat.reduceEqDiff, wpost0, wpost1, wpost2, wpost3, wpost4, ite_self, ite_true, ite_false, if_true, if_false, xld38, xfad38_0, xld36, xlen36, xiad36, xld44, xlen44, bin_eql, fr121, wrap_int, wrap_u8, iteP_yes, iteP_no, hb, C0, c0, Valid_r hX mH hp hp8 hp hp8, hR0.iad Try.underlying36 tsz44, hR0.len Try.underlying36, hl0, r0.len, ef] | refine iteP_two (fun hc hd => ?_) (fun hc hd => ?_) | refine iteP_intro (fun hc => ?_) (fun hc => ?_))
  simp
set_option maxHeartbeats 2000000 in
theorem Form_r (hX : XN X) (m : MatB lo h x p p M) (r : RowB lo' h y p f) (hp : 1 ≤ p) (hp8 : p ≤ 8) (hro : ro ≤ h.length) (hok : ∀ i t, i < p → t < p → okM (M i t) (f t)) (hok2 : ∀ i, i < p → okM (cjB (f i)) (dotB (M i) f p)) :
    Ret Try.prog ro X 28 [matV x, y] h (.tuple ⟨[toV (dotB (fun i => cjB (f i)) (fun i => dotB (M i) f p) p), .bool true]⟩) := by
  obtain ⟨R, hR, hrow⟩ := id m
  have hb := box_mat hR h
  refine ret_of (callR_of (hX _ rfl) Try.func28 rfl (by kernel_rfl) (Nat.le_of_ble_eq_true rfl) ?_)
  (repeat' first | simp -dsimp (disch := first | omega | assumption | (refine OkS.sto ?_ (by omega); first | assumption | (refine OkS.sto ?_ (by omega); first | assumption | (refine OkS.sto ?_ (by omega); first | assumption | (refine OkS.sto ?_ (by omega); first | assumption | (refine OkS.sto ?_ (by omega); first | assumption | (refine OkS.sto ?_ (by omega); first | assumption)))))) | exact Pfx.refl _ | (apply Pfx.snoc; repeat (first | exact Pfx.refl _ | assumption | apply Pfx.snoc)) | with_unfolding_all exact of_eq_true (eq_true rfl) | (simp only [List.length_append, List.length_cons, List.length_nil]; omega)) only [↓wpre0, ↓wpre1, ↓reduceIte, Int.reduceToNat, Nat.reduceAdd, Nat.reduceMul, Nat.reduceEqDiff, wpost0, wpost1, wpost2, wpost3, wpost4, ite_self, ite_true, ite_false, if_true, if_false, xld38, un_not, fr28, wrap_int, wrap_u8, iteP_yes, iteP_no, hb] | refine iteP_two (fun hc hd => ?_) (fun hc hd => ?_) | refine iteP_intro (fun hc => ?_) (fun hc => ?_))
  obtain ⟨H0, hH0⟩ : ∃ H0, H0 = h ++ [(⟨38, [x]⟩ : Blk)] := ⟨_, rfl⟩
  have p0 : Pfx h H0 := by rw [hH0]; exact (Pfx.refl h).snoc
  have l0 : H0.length = h.length + 1 := by rw [hH0]; simp
  have D0 : H0[h.length]? = some ⟨38, [x]⟩ := by rw [hH0]; exact get_last rfl
  have C0 : cells H0 h.length 0 1 = some (.agg ⟨[x]⟩) := cellsb (n := 1) (o := 0) D0 (by simp)
  rw [← hH0]
  have mH := MatB.pre m p0
  have rH := RowB.pre r p0
  (repeat' first | simp -dsimp (disch := first | omega | assumption | (refine OkS.sto ?_ (by omega); first | assumption | (refine OkS.sto ?_ (by omega); first | assumption | (refine OkS.sto ?_ (by omega); first | assumption | (refine OkS.sto ?_ (by omega); first | assumption | (refine OkS.sto ?_ (by omega); first | assumption | (refine OkS.sto ?_ (by omega); first | assumption)))))) | exact Pfx.refl _ | (apply Pfx.snoc; repeat (first | exact Pfx.refl _ | assumption | apply Pfx.snoc)) | with_unfolding_all exact of_eq_true (eq_true rfl) | (simp only [List.length_append, List.length_cons, List.length_nil]; omega)) only [↓wpre0, ↓wpre1, ↓reduceIte, Int.reduceToNat, Nat.reduceAdd, Nat.reduceMul, Nat.reduceEqDiff, wpost0, wpost1, wpost2, wpost3, wpost4, ite_self, ite_true, ite_false, if_true, if_false, xld38, un_not, fr28, wrap_int, wrap_u8, iteP_yes, iteP_no, C0, Square_r hX mH hp hp8] | refine iteP_two (fun hc hd => ?_) (fun hc hd => ?_) | refine iteP_intro (fun hc => ?_) (fun hc => ?_))
  refine cf_rel (MulVec_c hX mH rH hp hp8 hp hp8 (by omega) hok) (fun q => by cases q) ?_
  rintro r2 H1 ⟨z, rfl, p1, rZ⟩
  have pA := p0.trans p1
  have ef : ∀ u, endH (.tuple ⟨[toV u, .bool true]⟩) h H1 = h := fun u => endH_flat rfl pA
  (repeat' first | simp -dsimp (disch := first | omega | assumption | (refine OkS.sto ?_ (by omega); first | assumption | (refine OkS.sto ?_ (by omega); first | assumption | (refine OkS.sto ?_ (by omega); first | assumption | (refine OkS.sto ?_ (by omega); first | assumption | (refine OkS.sto ?_ (by omega); first | assumption | (refine OkS.sto ?_ (by omega); first | assumption)))))) | exact Pfx.refl _ | (apply Pfx.snoc; repeat (first | exact Pfx.refl _ | assumption | apply Pfx.snoc)) | with_unfolding_all exact of_eq_true (eq_true rfl) | (simp only [List.length_append, List.length_cons, List.length_nil]; omega)) only [↓wpre0, ↓wpre1, ↓reduceIte, Int.reduceToNat, Nat.reduceAdd, Nat.reduceMul, Nat.reduceEqDiff, wpost0, wpost1, wpost2, wpost3, wpost4, ite_self, ite_true, ite_false, if_true, if_false, xld38, un_not, fr28, wrap_int, wrap_u8, iteP_yes, iteP_no, DotC_r hX (rH.pre p1) rZ (by omega) hok2, ef] | refine iteP_two (fun hc hd => ?_) (fun hc hd => ?_) | refine iteP_intro (fun hc => ?_) (fun hc => ?_))
end Go.Proofs.Ytelogajobjflfaa.Sim
