/- Matrices: whether they are valid, adjoints, products and sums. Lemmas only; no condition. -/
import Derived.Test.YtelogajobjflfaaMtc
import Derived.Test.YtelogajobjflfaaSimXs
set_option linter.unusedSimpArgs false
set_option linter.unusedVariables false
set_option maxRecDepth 8000
namespace Go.Proofs.Ytelogajobjflfaa.Sim
open Go Go.RowKit
variable {ro lo lo' : Nat} {X : Ext} {h : Heap} {x y : Value} {n p q s : Nat} {f g : Nat → CB} {M K : Nat → Nat → CB}
theorem withinM_r (hX : XN X) (a b c : Int) (h : Heap) : Ret Try.prog ro X 108 [.int .i64 a, .int .i64 b, .int .i64 c] h (.bool (decide (b ≤ a) && decide (a ≤ c))) := by
  refine ret_of (callR_of (hX _ rfl) Try.func108 rfl (by kernel_rfl) (Nat.le_of_ble_eq_true rfl) ?_)
  (repeat' first | simp -dsimp (disch := first | omega | assumption | (refine OkS.sto ?_ (by omega); first | assumption | (refine OkS.sto ?_ (by omega); first | assumption | (refine OkS.sto ?_ (by omega); first | assumption | (refine OkS.sto ?_ (by omega); first | assumption | (refine OkS.sto ?_ (by omega); first | assumption | (refine OkS.sto ?_ (by omega); first | assumption)))))) | exact Pfx.refl _ | (apply Pfx.snoc; repeat (first | exact Pfx.refl _ | assumption | apply Pfx.snoc)) | with_unfolding_all exact of_eq_true (eq_true rfl) | (simp only [List.length_append, List.length_cons, List.length_nil]; omega)) only [↓wpre0, ↓wpre1, ↓reduceIte, Int.reduceToNat, Nat.reduceAdd, Nat.reduceMul, Nat.reduceEqDiff, wpost0, wpost1, wpost2, wpost3, wpost4, ite_self, ite_true, ite_false, if_true, if_false, bin_geq, bin_leq, fr108, wrap_int, wrap_u8, iteP_yes, iteP_no] | refine iteP_two (fun hc hd => ?_) (fun hc hd => ?_) | refine iteP_intro (fun hc => ?_) (fun hc => ?_))
  all_goals first | (simp_all; done) | (simp_all; omega) | skip
/-- The rows of a matrix, loaded. -/
theorem mat_ld {i : Nat} {R : List Value} (hR : VS lo h.length 1 h x p R) (hi : i < p) : ld Try.prog h 44 (ea x (i * 1)) = some (vth R i) := vs_ld hR hi
theorem mat_ld0 {R : List Value} (hR : VS lo h.length 1 h x p R) (hp : 1 ≤ p) : ld Try.prog h 44 (ea x 0) = some (vth R 0) := vs_ld (i := 0) hR (by omega)
theorem box_mat {lo hi n : Nat} {h' : Heap} {R : List Value} (s : VS lo hi 1 h' x n R) (h : Heap) : boxV h 38 (matV x) = some (.pointer (some ⟨h.length, 0, none⟩), h ++ [⟨38, [x]⟩]) := box_go (by simp [cellsOf, s.shape.2.2])
theorem Valid_r (hX : XN X) (m : MatB lo h x p q M) (hp : 1 ≤ p) (hp8 : p ≤ 8) (hq : 1 ≤ q) (hq8 : q ≤ 8) : Ret Try.prog ro X 31 [matV x] h (.bool true) := by
  obtain ⟨R, hR, hrow⟩ := m
  have hb := box_mat hR h
  refine ret_of (callR_of (hX _ rfl) Try.func31 rfl (by kernel_rfl) (Nat.le_of_ble_eq_true rfl) ?_)
  (repeat' first | simp -dsimp (disch := first | omega | assumption | (refine OkS.sto ?_ (by omega); first | assumption | (refine OkS.sto ?_ (by omega); first | assumption | (refine OkS.sto ?_ (by omega); first | assumption | (refine OkS.sto ?_ (by omega); first | assumption | (refine OkS.sto ?_ (by omega); first | assumption | (refine OkS.sto ?_ (by omega); first | assumption)))))) | exact Pfx.refl _ | (apply Pfx.snoc; repeat (first | exact Pfx.refl _ | assumption | apply Pfx.snoc)) | with_unfolding_all exact of_eq_true (eq_true rfl) | (simp only [List.length_append, List.length_cons, List.length_nil]; omega)) only [↓wpre0, ↓wpre1, ↓reduceIte, Int.reduceToNat, Nat.reduceAdd, Nat.reduceMul, Nat.reduceEqDiff, wpost0, wpost1, wpost2, wpost3, wpost4, ite_self, ite_true, ite_false, if_true, if_false, xfad38_0, xld36, xlen36, un_not, xiad36, xld44, xlen44, bin_lss, bin_neq, bin_add, fr31, wrap_int, wrap_u8, iteP_yes, iteP_no, hb] | refine iteP_two (fun hc hd => ?_) (fun hc hd => ?_) | refine iteP_intro (fun hc => ?_) (fun hc => ?_))
  obtain ⟨H0, hH0⟩ : ∃ H0, H0 = h ++ [(⟨38, [x]⟩ : Blk)] := ⟨_, rfl⟩
  have p0 : Pfx h H0 := by rw [hH0]; exact (Pfx.refl h).snoc
  have c0 : cell H0 h.length 0 = some x := by rw [hH0]; exact cell_last rfl
  rw [← hH0]
  have hR0 : VS lo H0.length 1 H0 x p R := (hR.pre p0).wide (Nat.le_refl _) p0.len
  have hw1 : (decide ((1 : Int) ≤ (p : Int)) && decide ((p : Int) ≤ 8)) = true := by simp; omega
  have hw2 : (decide ((1 : Int) ≤ (q : Int)) && decide ((q : Int) ≤ 8)) = true := by simp; omega
  have r0 := (hrow 0 (by omega)).pre p0
  have hl0 := mat_ld0 hR0 hp
  (repeat' first | simp -dsimp (disch := first | omega | assumption | (refine OkS.sto ?_ (by omega); first | assumption | (refine OkS.sto ?_ (by omega); first | assumption | (refine OkS.sto ?_ (by omega); first | assumption | (refine OkS.sto ?_ (by omega); first | assumption | (refine OkS.sto ?_ (by omega); first | assumption | (refine OkS.sto ?_ (by omega); first | assumption)))))) | exact Pfx.refl _ | (apply Pfx.snoc; repeat (first | exact Pfx.refl _ | assumption | apply Pfx.snoc)) | with_unfolding_all exact of_eq_true (eq_true rfl) | (simp only [List.length_append, List.length_cons, List.length_nil]; omega)) only [↓wpre0, ↓wpre1, ↓reduceIte, Int.reduceToNat, Nat.reduceAdd, Nat.reduceMul, Nat.reduceEqDiff, wpost0, wpost1, wpost2, wpost3, wpost4, ite_self, ite_true, ite_false, if_true, if_false, xfad38_0, xld36, xlen36, un_not, xiad36, xld44, xlen44, bin_lss, bin_neq, bin_add, fr31, wrap_int, wrap_u8, iteP_yes, iteP_no, c0, hR0.len Try.underlying36, hR0.iad Try.underlying36 tsz44, hl0, r0.len, withinM_r hX, hw1, hw2] | refine iteP_two (fun hc hd => ?_) (fun hc hd => ?_) | refine iteP_intro (fun hc => ?_) (fun hc => ?_))
  refine loop_rounds (fun mm e h' => ∃ i : Nat, mm = p - i ∧ i ≤ p ∧ h' = H0 ∧ e 1 = .pointer (some ⟨h.length, 0, none⟩) ∧ e 20 = x ∧ e 21 = .int .i64 p ∧ e 22 = .int .i64 i) _ ⟨0, rfl, ?_⟩ ?_
  · simp only [updO_at, updO_not, entry_at, List.getD_cons_zero, List.getD_cons_succ, ↓reduceIte, Nat.reduceEqDiff, true_and, and_true]
    (repeat' (first | assumption | rfl | omega | refine And.intro ?_ ?_))
  · rintro mm e h' ⟨i, hmm, hle, rfl, g1, g20, g21, g22⟩
    have hks : (i : Int) + 1 = ((i + 1 : Nat) : Int) := by omega
    by_cases hin : i < p
    · have hli := mat_ld hR0 hin
      have ri := (hrow i hin).pre p0
      (repeat' first | simp -dsimp (disch := first | omega | assumption | (refine OkS.sto ?_ (by omega); first | assumption | (refine OkS.sto ?_ (by omega); first | assumption | (refine OkS.sto ?_ (by omega); first | assumption | (refine OkS.sto ?_ (by omega); first | assumption | (refine OkS.sto ?_ (by omega); first | assumption | (refine OkS.sto ?_ (by omega); first | assumption)))))) | exact Pfx.refl _ | (apply Pfx.snoc; repeat (first | exact Pfx.refl _ | assumption | apply Pfx.snoc)) | with_unfolding_all exact of_eq_true (eq_true rfl) | (simp only [List.length_append, List.length_cons, List.length_nil]; omega)) only [↓wpre0, ↓wpre1, ↓reduceIte, Int.reduceToNat, Nat.reduceAdd, Nat.reduceMul, Nat.reduceEqDiff, wpost0, wpost1, wpost2, wpost3, wpost4, ite_self, ite_true, ite_false, if_true, if_false, xfad38_0, xld36, xlen36, un_not, xiad36, xld44, xlen44, bin_lss, bin_neq, bin_add, fr31, wrap_int, wrap_u8, iteP_yes, iteP_no, g1, g20, g21, g22, c0, hR0.iad Try.underlying36 tsz44, hl0, hli, r0.len, ri.len] | refine iteP_two (fun hc hd => ?_) (fun hc hd => ?_) | refine iteP_intro (fun hc => ?_) (fun hc => ?_))
      refine ⟨p - (i + 1), by omega, i + 1, ?_⟩
      (repeat' (first | assumption | rfl | omega | (rw [hks]) | refine And.intro ?_ ?_))
    · (repeat' first | simp -dsimp (disch := first | omega | assumption | (refine OkS.sto ?_ (by omega); first | assumption | (refine OkS.sto ?_ (by omega); first | assumption | (refine OkS.sto ?_ (by omega); first | assumption | (refine OkS.sto ?_ (by omega); first | assumption | (refine OkS.sto ?_ (by omega); first | assumption | (refine OkS.sto ?_ (by omega); first | assumption)))))) | exact Pfx.refl _ | (apply Pfx.snoc; repeat (first | exact Pfx.refl _ | assumption | apply Pfx.snoc)) | with_unfolding_all exact of_eq_true (eq_true rfl) | (simp only [List.length_append, List.length_cons, List.length_nil]; omega)) only [↓wpre0, ↓wpre1, ↓reduceIte, Int.reduceToNat, Nat.reduceAdd, Nat.reduceMul, Nat.reduceEqDiff, wpost0, wpost1, wpost2, wpost3, wpost4, ite_self, ite_true, ite_false, if_true, if_false, xfad38_0, xld36, xlen36, un_not, xiad36, xld44, xlen44, bin_lss, bin_neq, bin_add, fr31, wrap_int, wrap_u8, iteP_yes, iteP_no, g1, g20, g21, g22, endH_flat, p0] | refine iteP_two (fun hc hd => ?_) (fun hc hd => ?_) | refine iteP_intro (fun hc => ?_) (fun hc => ?_))
theorem adjF_r (hX : XN X) {b i j : Nat} (hb : h[b]? = some ⟨38, [x]⟩) (m : MatB lo h x p q M) (hi : i < q) (hj : j < p) : Ret Try.prog ro X 194 [.int .i64 i, .int .i64 j, .pointer (some ⟨b, 0, none⟩)] h (toV (cjB (M j i))) := by
  obtain ⟨R, hR, hrow⟩ := m
  have c0 : cell h b 0 = some x := cellb hb
  have hl := mat_ld hR hj
  have r := hrow j hj
  refine ret_of (callR_of (hX _ rfl) Try.func194 rfl (by kernel_rfl) (Nat.le_of_ble_eq_true rfl) ?_)
  (repeat' first | simp -dsimp (disch := first | omega | assumption | (refine OkS.sto ?_ (by omega); first | assumption | (refine OkS.sto ?_ (by omega); first | assumption | (refine OkS.sto ?_ (by omega); first | assumption | (refine OkS.sto ?_ (by omega); first | assumption | (refine OkS.sto ?_ (by omega); first | assumption | (refine OkS.sto ?_ (by omega); first | assumption)))))) | exact Pfx.refl _ | (apply Pfx.snoc; repeat (first | exact Pfx.refl _ | assumption | apply Pfx.snoc)) | with_unfolding_all exact of_eq_true (eq_true rfl) | (simp only [List.length_append, List.length_cons, List.length_nil]; omega)) only [↓wpre0, ↓wpre1, ↓reduceIte, Int.reduceToNat, Nat.reduceAdd, Nat.reduceMul, Nat.reduceEqDiff, wpost0, wpost1, wpost2, wpost3, wpost4, ite_self, ite_true, ite_false, if_true, if_false, xfad38_0, xld36, xiad36, xld44, xiad44, xld46, fr194, wrap_int, wrap_u8, iteP_yes, iteP_no, c0, hR.iad Try.underlying36 tsz44, hl, r.iad, r.ld, Conj_r hX] | refine iteP_two (fun hc hd => ?_) (fun hc hd => ?_) | refine iteP_intro (fun hc => ?_) (fun hc => ?_))
set_option maxHeartbeats 2000000 in
theorem adjoint_w (hX : XN X) {c : Code} (hc : Try.f119.body = some c) (m : MatB lo h x p q M) (hp : 1 ≤ p) (hp8 : p ≤ 1024) (hq : 1 ≤ q) (hq8 : q ≤ 1024) (hro : ro ≤ h.length) :
    WG Try.prog ro X c (EndP Try.prog Try.f119 h fun r h' => ∃ y, r = matV y ∧ Pfx h h' ∧ MatB h.length h' y q p (fun i j => cjB (M j i)) ∧ Sim.flat (matV y) = false) (entry [matV x]) h := by
  cases hc
  obtain ⟨R, hR, hrow⟩ := id m
  have hb := box_mat hR h
  (repeat' first | simp -dsimp (disch := first | omega | assumption | (refine OkS.sto ?_ (by omega); first | assumption | (refine OkS.sto ?_ (by omega); first | assumption | (refine OkS.sto ?_ (by omega); first | assumption | (refine OkS.sto ?_ (by omega); first | assumption | (refine OkS.sto ?_ (by omega); first | assumption | (refine OkS.sto ?_ (by omega); first | assumption)))))) | exact Pfx.refl _ | (apply Pfx.snoc; repeat (first | exact Pfx.refl _ | assumption | apply Pfx.snoc)) | with_unfolding_all exact of_eq_true (eq_true rfl) | (simp only [List.length_append, List.length_cons, List.length_nil]; omega)) only [↓gpre0, ↓wpre1, ↓reduceIte, Int.reduceToNat, Nat.reduceAdd, Nat.reduceMul, Nat.reduceEqDiff, wpost0, wpost1, wpost2, wpost3, wpost4, ite_self, ite_true, ite_false, if_true, if_false, tze38, xfad38_0, xld36, xiad36, xld44, xlen44, xlen36, xst38, xld38, fr119, wrap_int, wrap_u8, iteP_yes, iteP_no, hb] | refine iteP_two (fun hc hd => ?_) (fun hc hd => ?_) | refine iteP_intro (fun hc => ?_) (fun hc => ?_))
  obtain ⟨H0, hH0⟩ : ∃ H0, H0 = h ++ [(⟨38, [x]⟩ : Blk)] ++ [(⟨38, [.slice none 0 0]⟩ : Blk)] := ⟨_, rfl⟩
  have p0 : Pfx h H0 := by rw [hH0]; exact (Pfx.refl h).snoc.snoc
  have l0 : H0.length = h.length + 2 := by rw [hH0]; simp
  have D0 : H0[h.length]? = some ⟨38, [x]⟩ := by rw [hH0, get_skip (by simp)]; exact get_last rfl
  have D1 : H0[h.length + 1]? = some ⟨38, [.slice none 0 0]⟩ := by rw [hH0]; exact get_last (by simp)
  have c0 : cell H0 h.length 0 = some x := cellb D0
  rw [← hH0]
  have hR0 : VS lo H0.length 1 H0 x p R := (hR.pre p0).wide (Nat.le_refl _) p0.len
  have hl0 := mat_ld0 hR0 hp
  have r0 := (hrow 0 (by omega)).pre p0
  have mH := MatB.pre m p0
  (repeat' first | simp -dsimp (disch := first | omega | assumption | (refine OkS.sto ?_ (by omega); first | assumption | (refine OkS.sto ?_ (by omega); first | assumption | (refine OkS.sto ?_ (by omega); first | assumption | (refine OkS.sto ?_ (by omega); first | assumption | (refine OkS.sto ?_ (by omega); first | assumption | (refine OkS.sto ?_ (by omega); first | assumption)))))) | exact Pfx.refl _ | (apply Pfx.snoc; repeat (first | exact Pfx.refl _ | assumption | apply Pfx.snoc)) | with_unfolding_all exact of_eq_true (eq_true rfl) | (simp only [List.length_append, List.length_cons, List.length_nil]; omega)) only [↓gpre0, ↓wpre1, ↓reduceIte, Int.reduceToNat, Nat.reduceAdd, Nat.reduceMul, Nat.reduceEqDiff, wpost0, wpost1, wpost2, wpost3, wpost4, ite_self, ite_true, ite_false, if_true, if_false, tze38, xfad38_0, xld36, xiad36, xld44, xlen44, xlen36, xst38, xld38, fr119, wrap_int, wrap_u8, iteP_yes, iteP_no, c0, hR0.len Try.underlying36, hR0.iad Try.underlying36 tsz44, hl0, r0.len] | refine iteP_two (fun hc hd => ?_) (fun hc hd => ?_) | refine iteP_intro (fun hc => ?_) (fun hc => ?_))
  refine cf_rel (matrixBy_c hX (p := q) (q := p) (M := fun i j => cjB (M j i)) 194 [.pointer (some ⟨h.length, 0, none⟩)] hq8 hp8 (by omega) (fun H i j hH hi hj => adjF_r hX (by rw [hH.get (by omega)]; exact D0) (mH.pre hH) hi hj)) (fun q => by cases q) ?_
  rintro r H1 ⟨y, rfl, p1, mY, hnf⟩
  have lp1 := p1.len
  have D2 : H1[h.length + 1]? = some ⟨38, [.slice none 0 0]⟩ := by rw [p1.get (by omega)]; exact D1
  have hsy : one y = true ∧ cellsOf (matV y) = [y] := by
    obtain ⟨R', hR', _⟩ := mY
    exact ⟨hR'.shape.2.2, rfl⟩
  have P1 : put ro H1 (h.length + 1) 0 1 (matV y) = some (H1.set (h.length + 1) ⟨38, [y]⟩) := putb (n := 1) (o := 0) D2 (by omega) rfl (by simp) (by simp [cellsOf, hsy.1])
  have C1 : cells (H1.set (h.length + 1) ⟨38, [y]⟩) (h.length + 1) 0 1 = some (.agg ⟨[y]⟩) := cells_set (o := 0) (n := 1) (by omega) (by simp)
  have mS := (mY.set (b := h.length + 1) (C := ⟨38, [y]⟩) (by omega)).low (show h.length ≤ H0.length + 2 by omega)
  have pS : Pfx h (H1.set (h.length + 1) ⟨38, [y]⟩) := (p0.trans p1).set (by omega)
  have hn1 : List.length (h ++ [(⟨38, [x]⟩ : Blk)]) = h.length + 1 := by simp
  (repeat' first | simp -dsimp (disch := first | omega | assumption | (refine OkS.sto ?_ (by omega); first | assumption | (refine OkS.sto ?_ (by omega); first | assumption | (refine OkS.sto ?_ (by omega); first | assumption | (refine OkS.sto ?_ (by omega); first | assumption | (refine OkS.sto ?_ (by omega); first | assumption | (refine OkS.sto ?_ (by omega); first | assumption)))))) | exact Pfx.refl _ | (apply Pfx.snoc; repeat (first | exact Pfx.refl _ | assumption | apply Pfx.snoc)) | with_unfolding_all exact of_eq_true (eq_true rfl) | (simp only [List.length_append, List.length_cons, List.length_nil]; omega)) only [↓gpre0, ↓wpre1, ↓reduceIte, Int.reduceToNat, Nat.reduceAdd, Nat.reduceMul, Nat.reduceEqDiff, wpost0, wpost1, wpost2, wpost3, wpost4, ite_self, ite_true, ite_false, if_true, if_false, tze38, xfad38_0, xld36, xiad36, xld44, xlen44, xlen36, xst38, xld38, fr119, wrap_int, wrap_u8, iteP_yes, iteP_no, hn1, P1, C1, endH_not hnf] | refine iteP_two (fun hc hd => ?_) (fun hc hd => ?_) | refine iteP_intro (fun hc => ?_) (fun hc => ?_))
  exact ⟨y, rfl, pS, mS, hnf⟩
/-- What a matrix argument may stand for. -/
structure MI where
  lo : Nat
  x : Value
  p : Nat
  q : Nat
  M : Nat → Nat → CB
def MI.ok (m : MI) (h : Heap) : Prop := MatB m.lo h m.x m.p m.q m.M ∧ 1 ≤ m.p ∧ m.p ≤ 8 ∧ 1 ≤ m.q ∧ m.q ≤ 8
/-- .. what a new matrix is. -/
def NewM (h : Heap) (p q : Nat) (M : Nat → Nat → CB) (q2 : Value × Heap) : Prop := ∃ y, q2.1 = matV y ∧ Pfx h q2.2 ∧ MatB h.length q2.2 y p q M ∧ Sim.flat (matV y) = false
def cBody (f : Func) (h : f.body.isSome = true) : Code := f.body.get h
noncomputable def cAdj : Code := (Try.f119.body).get rfl
theorem cAdj_body : Try.f119.body = some cAdj := (Option.some_get _).symm
def preAdj (i : MI × Nat) (args : List Value) (h : Heap) : Prop := args = [matV i.1.x] ∧ i.1.ok h
def rAdj (i : MI × Nat) (args : List Value) (h : Heap) (r : Value × Heap) : Prop := NewM h i.1.q i.1.p (fun a b => cjB (i.1.M b a)) r
noncomputable def xAdj (ro : Nat) (X : Ext) : Ext := fun g => if g = 119 then some (fG Try.prog ro X Try.f119 cAdj (RA preAdj rAdj)) else none
theorem xAdj_ok {B : Base} (hX : XOk Try.prog ro B X) : XOk Try.prog ro B (xAdj ro X) := fGX_ok mixed hX Try.func119 cAdj_body (by decide) (by kernel_rfl)
theorem adj_c {X' : Ext} (hX : XN X) (hx : X' 119 = xAdj ro X 119) (m : MatB lo h x p q M) (hp : 1 ≤ p) (hp8 : p ≤ 8) (hq : 1 ≤ q) (hq8 : q ≤ 8) (hro : ro ≤ h.length) :
    CallR Try.prog ro X' 119 [matV x] h (fun r h' => NewM h q p (fun a b => cjB (M b a)) (r, h')) := by
  refine fG_callA (pre := preAdj) (R := rAdj) (hx.trans (by unfold xAdj; rw [if_pos rfl])) (Nat.le_of_ble_eq_true rfl) (fun i hi => ?_) (⟨lo, x, p, q, M⟩, 0) ⟨rfl, m, hp, hp8, hq, hq8⟩
  obtain ⟨⟨lo', x', p', q', M'⟩, j⟩ := i
  obtain ⟨h1, h2, h3, h4, h5, h6⟩ := hi
  have e : x = x' := by
    simp only [matV, List.cons.injEq, and_true] at h1
    injection h1 with h1
    injection h1 with h1
    injection h1
  subst e
  exact adjoint_w hX cAdj_body h2 h3 (Nat.le_trans h4 (by decide)) h5 (Nat.le_trans h6 (by decide)) hro
theorem mulF_w (hX : XN X) {b b' i j : Nat} {c : Code} (hc : Try.f116.body = some c) (hb : h[b]? = some ⟨38, [x]⟩) (hb' : h[b']? = some ⟨38, [y]⟩) (m : MatB lo h x p q M) (k : MatB lo' h y q s K) (hq : 1 ≤ q) (hq8 : q ≤ 8) (hi : i < p) (hj : j < s) (hro : ro ≤ h.length) (hok : ∀ t, t < q → okM (M i t) (K t j)) :
    WG Try.prog ro X c (EndP Try.prog Try.f116 h fun r h' => r = toV (dotB (M i) (fun t => K t j) q) ∧ h' = h) (entry [.int .i64 i, .int .i64 j, .pointer (some ⟨b, 0, none⟩), .pointer (some ⟨b', 0, none⟩)]) h := by
  cases hc
  obtain ⟨R, hR, hrow⟩ := id m
  have hR2 := k
  obtain ⟨R2, hR2', _⟩ := id k
  have c0 : cell h b 0 = some x := cellb hb
  have hl := mat_ld hR hi
  have r0 := hrow i hi
  have C1 : cells h b' 0 1 = some (.agg ⟨[y]⟩) := cellsb (n := 1) (o := 0) hb' (by simp)
  (repeat' first | simp -dsimp (disch := first | omega | assumption | (refine OkS.sto ?_ (by omega); first | assumption | (refine OkS.sto ?_ (by omega); first | assumption | (refine OkS.sto ?_ (by omega); first | assumption | (refine OkS.sto ?_ (by omega); first | assumption | (refine OkS.sto ?_ (by omega); first | assumption | (refine OkS.sto ?_ (by omega); first | assumption)))))) | exact Pfx.refl _ | (apply Pfx.snoc; repeat (first | exact Pfx.refl _ | assumption | apply Pfx.snoc)) | with_unfolding_all exact of_eq_true (eq_true rfl) | (simp only [List.length_append, List.length_cons, List.length_nil]; omega)) only [↓gpre0, ↓wpre1, ↓reduceIte, Int.reduceToNat, Nat.reduceAdd, Nat.reduceMul, Nat.reduceEqDiff, wpost0, wpost1, wpost2, wpost3, wpost4, ite_self, ite_true, ite_false, if_true, if_false, xfad38_0, xld36, xiad36, xld44, xld38, fr116, wrap_int, wrap_u8, iteP_yes, iteP_no] | refine iteP_two (fun hc hd => ?_) (fun hc hd => ?_) | refine iteP_intro (fun hc => ?_) (fun hc => ?_))
  refine WG_grow (c := 7) (by kernel_rfl) rfl rfl ?_
  (repeat' first | simp -dsimp (disch := first | omega | assumption | (refine OkS.sto ?_ (by omega); first | assumption | (refine OkS.sto ?_ (by omega); first | assumption | (refine OkS.sto ?_ (by omega); first | assumption | (refine OkS.sto ?_ (by omega); first | assumption | (refine OkS.sto ?_ (by omega); first | assumption | (refine OkS.sto ?_ (by omega); first | assumption)))))) | exact Pfx.refl _ | (apply Pfx.snoc; repeat (first | exact Pfx.refl _ | assumption | apply Pfx.snoc)) | with_unfolding_all exact of_eq_true (eq_true rfl) | (simp only [List.length_append, List.length_cons, List.length_nil]; omega)) only [↓gpre0, ↓wpre1, ↓reduceIte, Int.reduceToNat, Nat.reduceAdd, Nat.reduceMul, Nat.reduceEqDiff, wpost0, wpost1, wpost2, wpost3, wpost4, ite_self, ite_true, ite_false, if_true, if_false, xfad38_0, xld36, xiad36, xld44, xld38, fr116, wrap_int, wrap_u8, iteP_yes, iteP_no, c0, hR.iad Try.underlying36 tsz44, hl, C1] | refine iteP_two (fun hc hd => ?_) (fun hc hd => ?_) | refine iteP_intro (fun hc => ?_) (fun hc => ?_))
  refine cf_rel (column_c hX k hj (by omega) hro) (fun q => by cases q) ?_
  rintro r h1 ⟨p1, rC, _⟩
  refine ⟨p1, ?_⟩
  have ef : endH (toV (dotB (M i) (fun t => K t j) q)) h h1 = h := endH_flat rfl p1
  (repeat' first | simp -dsimp (disch := first | omega | assumption | (refine OkS.sto ?_ (by omega); first | assumption | (refine OkS.sto ?_ (by omega); first | assumption | (refine OkS.sto ?_ (by omega); first | assumption | (refine OkS.sto ?_ (by omega); first | assumption | (refine OkS.sto ?_ (by omega); first | assumption | (refine OkS.sto ?_ (by omega); first | assumption)))))) | exact Pfx.refl _ | (apply Pfx.snoc; repeat (first | exact Pfx.refl _ | assumption | apply Pfx.snoc)) | with_unfolding_all exact of_eq_true (eq_true rfl) | (simp only [List.length_append, List.length_cons, List.length_nil]; omega)) only [↓gpre0, ↓wpre1, ↓reduceIte, Int.reduceToNat, Nat.reduceAdd, Nat.reduceMul, Nat.reduceEqDiff, wpost0, wpost1, wpost2, wpost3, wpost4, ite_self, ite_true, ite_false, if_true, if_false, xfad38_0, xld36, xiad36, xld44, xld38, fr116, wrap_int, wrap_u8, iteP_yes, iteP_no, dot_r hX (r0.pre p1) rC (by omega) hok, ef] | refine iteP_two (fun hc hd => ?_) (fun hc hd => ?_) | refine iteP_intro (fun hc => ?_) (fun hc => ?_))
noncomputable def cMulF : Code := (Try.f116.body).get rfl
theorem cMulF_body : Try.f116.body = some cMulF := (Option.some_get _).symm
structure FI where
  m : MI
  k : MI
  b : Nat
  b' : Nat
  i : Nat
  j : Nat
def preMulF (f : FI) (args : List Value) (h : Heap) : Prop := args = [.int .i64 f.i, .int .i64 f.j, .pointer (some ⟨f.b, 0, none⟩), .pointer (some ⟨f.b', 0, none⟩)] ∧ h[f.b]? = some ⟨38, [f.m.x]⟩ ∧ h[f.b']? = some ⟨38, [f.k.x]⟩ ∧ f.m.ok h ∧ f.k.ok h ∧ f.m.q = f.k.p ∧ f.i < f.m.p ∧ f.j < f.k.q ∧ ∀ t, t < f.m.q → okM (f.m.M f.i t) (f.k.M t f.j)
def rMulF (f : FI) (args : List Value) (h : Heap) (r : Value × Heap) : Prop := r.1 = toV (dotB (f.m.M f.i) (fun t => f.k.M t f.j) f.m.q) ∧ r.2 = h
noncomputable def xMulF (ro : Nat) (X : Ext) : Ext := fun g => if g = 116 then some (fG Try.prog ro X Try.f116 cMulF (RA preMulF rMulF)) else none
theorem xMulF_ok {B : Base} (hX : XOk Try.prog ro B X) : XOk Try.prog ro B (xMulF ro X) := fGX_ok mixed hX Try.func116 cMulF_body (by decide) (by kernel_rfl)
theorem mulF_r {X' : Ext} (hX : XN X) (hx : X' 116 = xMulF ro X 116) {b b' i j : Nat} (hb : h[b]? = some ⟨38, [x]⟩) (hb' : h[b']? = some ⟨38, [y]⟩) (m : MatB lo h x p q M) (k : MatB lo' h y q s K) (hp : 1 ≤ p) (hp8 : p ≤ 8) (hq : 1 ≤ q) (hq8 : q ≤ 8) (hs : 1 ≤ s) (hs8 : s ≤ 8) (hi : i < p) (hj : j < s) (hro : ro ≤ h.length) (hok : ∀ t, t < q → okM (M i t) (K t j)) :
    Ret Try.prog ro X' 116 [.int .i64 i, .int .i64 j, .pointer (some ⟨b, 0, none⟩), .pointer (some ⟨b', 0, none⟩)] h (toV (dotB (M i) (fun t => K t j) q)) := by
  have := fG_callA (P := Try.prog) (ro := ro) (X := X) (X' := X') (fn := Try.f116) (c := cMulF) (pre := preMulF) (R := rMulF) (hx.trans (by unfold xMulF; rw [if_pos rfl])) (args := [.int .i64 i, .int .i64 j, .pointer (some ⟨b, 0, none⟩), .pointer (some ⟨b', 0, none⟩)]) (h := h) (Nat.le_of_ble_eq_true rfl) (fun f hf => ?_) (⟨⟨lo, x, p, q, M⟩, ⟨lo', y, q, s, K⟩, b, b', i, j⟩) ⟨rfl, hb, hb', ⟨m, hp, hp8, hq, hq8⟩, ⟨k, hq, hq8, hs, hs8⟩, rfl, hi, hj, hok⟩
  · exact ret_of this
  · obtain ⟨⟨lo1, x1, p1, q1, M1⟩, ⟨lo2, x2, p2, q2, M2⟩, b1, b2, i1, j1⟩ := f
    obtain ⟨e1, f1, f2, ⟨g1, g2, g3, g4, g5⟩, ⟨k1, k2, k3, k4, k5⟩, f5, f6, f7, f8⟩ := hf
    simp only at f5
    subst f5
    rw [e1]
    exact mulF_w hX cMulF_body f1 f2 g1 k1 g4 g5 f6 f7 hro f8
end Go.Proofs.Ytelogajobjflfaa.Sim
