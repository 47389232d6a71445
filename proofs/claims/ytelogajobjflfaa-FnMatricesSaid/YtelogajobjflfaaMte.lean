/- Products and sums of matrices. Lemmas only; no condition. -/
import Derived.Test.YtelogajobjflfaaMtd
set_option linter.unusedSimpArgs false
set_option linter.unusedVariables false
set_option maxRecDepth 8000
namespace Go.Proofs.Ytelogajobjflfaa.Sim
open Go Go.RowKit
variable {ro lo lo' : Nat} {X : Ext} {h : Heap} {x y : Value} {n p q s : Nat} {f g : Nat → CB} {M K : Nat → Nat → CB}
set_option maxHeartbeats 4000000 in
theorem mulM_w {X0 : Ext} (hX0 : XN X0) (hX : XN X) (hx : X 116 = xMulF ro X0 116) {c : Code} (hc : Try.f24.body = some c) (m : MatB lo h x p q M) (k : MatB lo' h y q s K) (hp : 1 ≤ p) (hp8 : p ≤ 8) (hq : 1 ≤ q) (hq8 : q ≤ 8) (hs : 1 ≤ s) (hs8 : s ≤ 8) (hro : ro ≤ h.length) (hok : ∀ i t j, i < p → t < q → j < s → okM (M i t) (K t j)) :
    WG Try.prog ro X c (EndP Try.prog Try.f24 h fun r h' => ∃ z, r = .tuple ⟨[matV z, .bool true]⟩ ∧ Pfx h h' ∧ MatB h.length h' z p s (fun i j => dotB (M i) (fun t => K t j) q)) (entry [matV x, matV y]) h := by
  cases hc
  obtain ⟨R, hR, hrow⟩ := id m
  obtain ⟨S, hS, hsow⟩ := id k
  have hb := box_mat hR
  have hb' := box_mat hS
  (repeat' first | simp -dsimp (disch := first | omega | assumption | (refine OkS.sto ?_ (by omega); first | assumption | (refine OkS.sto ?_ (by omega); first | assumption | (refine OkS.sto ?_ (by omega); first | assumption | (refine OkS.sto ?_ (by omega); first | assumption | (refine OkS.sto ?_ (by omega); first | assumption | (refine OkS.sto ?_ (by omega); first | assumption)))))) | exact Pfx.refl _ | (apply Pfx.snoc; repeat (first | exact Pfx.refl _ | assumption | apply Pfx.snoc)) | with_unfolding_all exact of_eq_true (eq_true rfl) | (simp only [List.length_append, List.length_cons, List.length_nil]; omega)) only [↓gpre0, ↓wpre1, ↓reduceIte, Int.reduceToNat, Nat.reduceAdd, Nat.reduceMul, Nat.reduceEqDiff, wpost0, wpost1, wpost2, wpost3, wpost4, ite_self, ite_true, ite_false, if_true, if_false, tze38, xld38, un_not, xfad38_0, xld36, xiad36, xld44, xlen44, xlen36, bin_neq, xbld38, xst38, fr24, wrap_int, wrap_u8, iteP_yes, iteP_no, hb, hb'] | refine iteP_two (fun hc hd => ?_) (fun hc hd => ?_) | refine iteP_intro (fun hc => ?_) (fun hc => ?_))
  obtain ⟨H0, hH0⟩ : ∃ H0, H0 = h ++ [(⟨38, [x]⟩ : Blk)] ++ [(⟨38, [y]⟩ : Blk)] ++ [(⟨38, [.slice none 0 0]⟩ : Blk)] := ⟨_, rfl⟩
  have n1 : List.length (h ++ [(⟨38, [x]⟩ : Blk)]) = h.length + 1 := by simp
  have n2 : List.length (h ++ [(⟨38, [x]⟩ : Blk)] ++ [(⟨38, [y]⟩ : Blk)]) = h.length + 2 := by simp
  have p0 : Pfx h H0 := by rw [hH0]; exact (Pfx.refl h).snoc.snoc.snoc
  have l0 : H0.length = h.length + 3 := by rw [hH0]; simp
  have D0 : H0[h.length]? = some ⟨38, [x]⟩ := by rw [hH0, get_skip (by simp), get_skip (by simp)]; exact get_last rfl
  have D1 : H0[h.length + 1]? = some ⟨38, [y]⟩ := by rw [hH0, get_skip (by simp)]; exact get_last (by simp)
  have D2 : H0[h.length + 2]? = some ⟨38, [.slice none 0 0]⟩ := by rw [hH0]; exact get_last (by simp)
  rw [← hH0]
  have c0 : cell H0 h.length 0 = some x := cellb D0
  have c1 : cell H0 (h.length + 1) 0 = some y := cellb D1
  have C0 : cells H0 h.length 0 1 = some (.agg ⟨[x]⟩) := cellsb (n := 1) (o := 0) D0 (by simp)
  have C1 : cells H0 (h.length + 1) 0 1 = some (.agg ⟨[y]⟩) := cellsb (n := 1) (o := 0) D1 (by simp)
  have hR0 : VS lo H0.length 1 H0 x p R := (hR.pre p0).wide (Nat.le_refl _) p0.len
  have hS0 : VS lo' H0.length 1 H0 y q S := (hS.pre p0).wide (Nat.le_refl _) p0.len
  have hl0 := mat_ld0 hR0 hp
  have hl1 := mat_ld0 hS0 hq
  have r0 := (hrow 0 (by omega)).pre p0
  have s0 := (hsow 0 (by omega)).pre p0
  have mH := MatB.pre m p0
  have kH := MatB.pre k p0
  (repeat' first | simp -dsimp (disch := first | omega | assumption | (refine OkS.sto ?_ (by omega); first | assumption | (refine OkS.sto ?_ (by omega); first | assumption | (refine OkS.sto ?_ (by omega); first | assumption | (refine OkS.sto ?_ (by omega); first | assumption | (refine OkS.sto ?_ (by omega); first | assumption | (refine OkS.sto ?_ (by omega); first | assumption)))))) | exact Pfx.refl _ | (apply Pfx.snoc; repeat (first | exact Pfx.refl _ | assumption | apply Pfx.snoc)) | with_unfolding_all exact of_eq_true (eq_true rfl) | (simp only [List.length_append, List.length_cons, List.length_nil]; omega)) only [↓gpre0, ↓wpre1, ↓reduceIte, Int.reduceToNat, Nat.reduceAdd, Nat.reduceMul, Nat.reduceEqDiff, wpost0, wpost1, wpost2, wpost3, wpost4, ite_self, ite_true, ite_false, if_true, if_false, tze38, xld38, un_not, xfad38_0, xld36, xiad36, xld44, xlen44, xlen36, bin_neq, xbld38, xst38, fr24, wrap_int, wrap_u8, iteP_yes, iteP_no, n1, n2, c0, c1, C0, C1, hS0.iad Try.underlying36 tsz44, hl1, s0.len, Valid_r hX mH hp hp8 hq hq8, Valid_r hX kH hq hq8 hs hs8, hR0.len Try.underlying36, hR0.iad Try.underlying36 tsz44, hl0, r0.len, hS0.len Try.underlying36] | refine iteP_two (fun hc hd => ?_) (fun hc hd => ?_) | refine iteP_intro (fun hc => ?_) (fun hc => ?_))
  refine cf_rel (matrixBy_c hX (p := p) (q := s) (M := fun i j => dotB (M i) (fun t => K t j) q) 116 [.pointer (some ⟨h.length, 0, none⟩), .pointer (some ⟨h.length + 1, 0, none⟩)] (by omega) (by omega) (by omega) (fun H i j hH hi hj => mulF_r hX0 hx (by rw [hH.get (by omega)]; exact D0) (by rw [hH.get (by omega)]; exact D1) (mH.pre hH) (kH.pre hH) hp hp8 hq hq8 hs hs8 hi hj (by have := hH.len; omega) (fun t ht => hok i t j hi ht hj))) (fun q => by cases q) ?_
  rintro r H1 ⟨z, rfl, p1, mZ, hnf⟩
  have lp1 := p1.len
  have E2 : H1[h.length + 2]? = some ⟨38, [.slice none 0 0]⟩ := by rw [p1.get (by omega)]; exact D2
  have hsz : one z = true := by
    obtain ⟨R', hR', _⟩ := mZ
    exact hR'.shape.2.2
  have P2 : put ro H1 (h.length + 2) 0 1 (matV z) = some (H1.set (h.length + 2) ⟨38, [z]⟩) := putb (n := 1) (o := 0) E2 (by omega) rfl (by simp) (by simp [cellsOf, hsz])
  have C2 : cells (H1.set (h.length + 2) ⟨38, [z]⟩) (h.length + 2) 0 1 = some (.agg ⟨[z]⟩) := cells_set (o := 0) (n := 1) (by omega) (by simp)
  have mS := (mZ.set (b := h.length + 2) (C := ⟨38, [z]⟩) (by omega)).low (show h.length ≤ H0.length + 2 by omega)
  have pS : Pfx h (H1.set (h.length + 2) ⟨38, [z]⟩) := (p0.trans p1).set (by omega)
  have hnt : Sim.flat (.tuple ⟨[matV z, .bool true]⟩) = false := by
    obtain ⟨R', hR', _⟩ := mZ
    rcases hR'.2 with ⟨_, rfl⟩ | ⟨b, o, cap, Bk, rfl, _⟩ <;> rfl
  (repeat' first | simp -dsimp (disch := first | omega | assumption | (refine OkS.sto ?_ (by omega); first | assumption | (refine OkS.sto ?_ (by omega); first | assumption | (refine OkS.sto ?_ (by omega); first | assumption | (refine OkS.sto ?_ (by omega); first | assumption | (refine OkS.sto ?_ (by omega); first | assumption | (refine OkS.sto ?_ (by omega); first | assumption)))))) | exact Pfx.refl _ | (apply Pfx.snoc; repeat (first | exact Pfx.refl _ | assumption | apply Pfx.snoc)) | with_unfolding_all exact of_eq_true (eq_true rfl) | (simp only [List.length_append, List.length_cons, List.length_nil]; omega)) only [↓gpre0, ↓wpre1, ↓reduceIte, Int.reduceToNat, Nat.reduceAdd, Nat.reduceMul, Nat.reduceEqDiff, wpost0, wpost1, wpost2, wpost3, wpost4, ite_self, ite_true, ite_false, if_true, if_false, tze38, xld38, un_not, xfad38_0, xld36, xiad36, xld44, xlen44, xlen36, bin_neq, xbld38, xst38, fr24, wrap_int, wrap_u8, iteP_yes, iteP_no, n1, n2, P2, C2, endH_not hnt] | refine iteP_two (fun hc hd => ?_) (fun hc hd => ?_) | refine iteP_intro (fun hc => ?_) (fun hc => ?_))
  exact ⟨z, rfl, pS, mS⟩
end Go.Proofs.Ytelogajobjflfaa.Sim
