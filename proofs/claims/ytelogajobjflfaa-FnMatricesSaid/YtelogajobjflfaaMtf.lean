/- Matrices: what the laws call. Lemmas only; no condition. -/
import Derived.Test.YtelogajobjflfaaMte
set_option linter.unusedSimpArgs false
set_option linter.unusedVariables false
set_option maxRecDepth 8000
namespace Go.Proofs.Ytelogajobjflfaa.Sim
open Go Go.RowKit
variable {ro lo lo' : Nat} {X : Ext} {h : Heap} {x y : Value} {n p q s : Nat} {f g : Nat → CB} {M K : Nat → Nat → CB}
noncomputable def cMul : Code := (Try.f24.body).get rfl
theorem cMul_body : Try.f24.body = some cMul := (Option.some_get _).symm
structure PI where
  m : MI
  k : MI
def preMul (f : PI) (args : List Value) (h : Heap) : Prop := args = [matV f.m.x, matV f.k.x] ∧ f.m.ok h ∧ f.k.ok h ∧ f.m.q = f.k.p ∧ ∀ i t j, i < f.m.p → t < f.m.q → j < f.k.q → okM (f.m.M i t) (f.k.M t j)
/-- A new matrix, and that it could be made. -/
def NewT (h : Heap) (p q : Nat) (M : Nat → Nat → CB) (r : Value × Heap) : Prop := ∃ z, r.1 = .tuple ⟨[matV z, .bool true]⟩ ∧ Pfx h r.2 ∧ MatB h.length r.2 z p q M
def rMul (f : PI) (args : List Value) (h : Heap) (r : Value × Heap) : Prop := NewT h f.m.p f.k.q (fun i j => dotB (f.m.M i) (fun t => f.k.M t j) f.m.q) r
noncomputable def xMul (ro : Nat) (X : Ext) : Ext := fun g => if g = 24 then some (fG Try.prog ro X Try.f24 cMul (RA preMul rMul)) else none
theorem xMul_ok {B : Base} (hX : XOk Try.prog ro B X) : XOk Try.prog ro B (xMul ro X) := fGX_ok mixed hX Try.func24 cMul_body (by decide) (by kernel_rfl)
theorem matV_inj {x y : Value} (h : matV x = matV y) : x = y := by
  injection h with h1
  injection h1 with h1
  injection h1
theorem Mul_c {X0 X' : Ext} (hX0 : XN X0) (hX : XN X) (hx0 : X 116 = xMulF ro X0 116) (hx : X' 24 = xMul ro X 24) (m : MatB lo h x p q M) (k : MatB lo' h y q s K) (hp : 1 ≤ p) (hp8 : p ≤ 8) (hq : 1 ≤ q) (hq8 : q ≤ 8) (hs : 1 ≤ s) (hs8 : s ≤ 8) (hro : ro ≤ h.length) (hok : ∀ i t j, i < p → t < q → j < s → okM (M i t) (K t j)) :
    CallR Try.prog ro X' 24 [matV x, matV y] h (fun r h' => NewT h p s (fun i j => dotB (M i) (fun t => K t j) q) (r, h')) := by
  refine fG_callA (pre := preMul) (R := rMul) (hx.trans (by unfold xMul; rw [if_pos rfl])) (Nat.le_of_ble_eq_true rfl) (fun i hi => ?_) (⟨⟨lo, x, p, q, M⟩, ⟨lo', y, q, s, K⟩⟩) ⟨rfl, ⟨m, hp, hp8, hq, hq8⟩, ⟨k, hq, hq8, hs, hs8⟩, rfl, hok⟩
  obtain ⟨⟨lo1, x1, p1, q1, M1⟩, ⟨lo2, x2, p2, q2, M2⟩⟩ := i
  obtain ⟨e1, ⟨g1, g2, g3, g4, g5⟩, ⟨k1, k2, k3, k4, k5⟩, f5, f8⟩ := hi
  simp only at f5
  subst f5
  rw [e1]
  exact mulM_w hX0 hX hx0 cMul_body g1 k1 g2 g3 g4 g5 k4 k5 hro f8
theorem addF_r (hX : XN X) {b b' i j : Nat} (hb : h[b]? = some ⟨38, [x]⟩) (hb' : h[b']? = some ⟨38, [y]⟩) (m : MatB lo h x p q M) (k : MatB lo' h y p q K) (hi : i < p) (hj : j < q) :
    Ret Try.prog ro X 122 [.int .i64 i, .int .i64 j, .pointer (some ⟨b, 0, none⟩), .pointer (some ⟨b', 0, none⟩)] h (toV (addB (M i j) (K i j))) := by
  obtain ⟨R, hR, hrow⟩ := m
  obtain ⟨S, hS, hsow⟩ := k
  have c0 : cell h b 0 = some x := cellb hb
  have c1 : cell h b' 0 = some y := cellb hb'
  have hl := mat_ld hR hi
  have hl' := mat_ld hS hi
  have r0 := hrow i hi
  have s0 := hsow i hi
  refine ret_of (callR_of (hX _ rfl) Try.func122 rfl (by kernel_rfl) (Nat.le_of_ble_eq_true rfl) ?_)
  (repeat' first | simp -dsimp (disch := first | omega | assumption | (refine OkS.sto ?_ (by omega); first | assumption | (refine OkS.sto ?_ (by omega); first | assumption | (refine OkS.sto ?_ (by omega); first | assumption | (refine OkS.sto ?_ (by omega); first | assumption | (refine OkS.sto ?_ (by omega); first | assumption | (refine OkS.sto ?_ (by omega); first | assumption)))))) | exact Pfx.refl _ | (apply Pfx.snoc; repeat (first | exact Pfx.refl _ | assumption | apply Pfx.snoc)) | with_unfolding_all exact of_eq_true (eq_true rfl) | (simp only [List.length_append, List.length_cons, List.length_nil]; omega)) only [↓wpre0, ↓wpre1, ↓reduceIte, Int.reduceToNat, Nat.reduceAdd, Nat.reduceMul, Nat.reduceEqDiff, wpost0, wpost1, wpost2, wpost3, wpost4, ite_self, ite_true, ite_false, if_true, if_false, xfad38_0, xld36, xiad36, xld44, xiad44, xld46, fr122, wrap_int, wrap_u8, iteP_yes, iteP_no, c0, c1, hR.iad Try.underlying36 tsz44, hl, hS.iad Try.underlying36 tsz44, hl', r0.iad, r0.ld, s0.iad, s0.ld, Add_r hX] | refine iteP_two (fun hc hd => ?_) (fun hc hd => ?_) | refine iteP_intro (fun hc => ?_) (fun hc => ?_))
set_option maxHeartbeats 4000000 in
theorem addM_w (hX : XN X) {c : Code} (hc : Try.f29.body = some c) (m : MatB lo h x p q M) (k : MatB lo' h y p q K) (hp : 1 ≤ p) (hp8 : p ≤ 8) (hq : 1 ≤ q) (hq8 : q ≤ 8) (hro : ro ≤ h.length) :
    WG Try.prog ro X c (EndP Try.prog Try.f29 h fun r h' => NewT h p q (fun i j => addB (M i j) (K i j)) (r, h')) (entry [matV x, matV y]) h := by
  cases hc
  obtain ⟨R, hR, hrow⟩ := id m
  obtain ⟨S, hS, hsow⟩ := id k
  have hb := box_mat hR
  have hb' := box_mat hS
  (repeat' first | simp -dsimp (disch := first | omega | assumption | (refine OkS.sto ?_ (by omega); first | assumption | (refine OkS.sto ?_ (by omega); first | assumption | (refine OkS.sto ?_ (by omega); first | assumption | (refine OkS.sto ?_ (by omega); first | assumption | (refine OkS.sto ?_ (by omega); first | assumption | (refine OkS.sto ?_ (by omega); first | assumption)))))) | exact Pfx.refl _ | (apply Pfx.snoc; repeat (first | exact Pfx.refl _ | assumption | apply Pfx.snoc)) | with_unfolding_all exact of_eq_true (eq_true rfl) | (simp only [List.length_append, List.length_cons, List.length_nil]; omega)) only [↓gpre0, ↓wpre1, ↓reduceIte, Int.reduceToNat, Nat.reduceAdd, Nat.reduceMul, Nat.reduceEqDiff, wpost0, wpost1, wpost2, wpost3, wpost4, ite_self, ite_true, ite_false, if_true, if_false, tze38, xld38, un_not, xfad38_0, xld36, xlen36, bin_neq, xiad36, xld44, xlen44, xbld38, xst38, fr29, wrap_int, wrap_u8, iteP_yes, iteP_no, hb, hb'] | refine iteP_two (fun hc hd => ?_) (fun hc hd => ?_) | refine iteP_intro (fun hc => ?_) (fun hc => ?_))
  obtain ⟨H0, hH0⟩ : ∃ H0, H0 = h ++ [(⟨38, [x]⟩ : Blk)] ++ [(⟨38, [y]⟩ : Blk)] ++ [(⟨38, [.slice none 0 0]⟩ : Blk)] := ⟨_, rfl⟩
  have n1 : List.length (h ++ [(⟨38, [x]⟩ : Blk)]) = h.length + 1 := by simp
  have n2 : List.length (h ++ [(⟨38, [x]⟩ : Blk)] ++ [(⟨38, [y]⟩ : Blk)]) = h.length + 2 := by simp
  have p0 : Pfx h H0 := by rw [hH0]; exact (Pfx.refl h).snoc.snoc.snoc
  have l0 : H0.length = h.length + 3 := by rw [hH0]; simp
  have D0 : H0[h.length]? = some ⟨38, [x]⟩ := by rw [hH0, get_skip (by simp), get_skip (by simp)]; exact get_last rfl
  have D1 : H0[h.length + 1]? = some ⟨38, [y]⟩ := by rw [hH0, get_skip (by simp)]; exact get_last (by simp)
  have D2 : H0[h.length + 2]? = some ⟨38, [.slice none 0 0]⟩ := by rw [hH0]; exact get_last (by simp)
  rw [← hH0]
  have c0 : cell H0 h.length 0 = some x := cellb D0
  have c1 : cell H0 (h.length + 1) 0 = some y := cellb D1
  have C0 : cells H0 h.length 0 1 = some (.agg ⟨[x]⟩) := cellsb (n := 1) (o := 0) D0 (by simp)
  have C1 : cells H0 (h.length + 1) 0 1 = some (.agg ⟨[y]⟩) := cellsb (n := 1) (o := 0) D1 (by simp)
  have hR0 : VS lo H0.length 1 H0 x p R := (hR.pre p0).wide (Nat.le_refl _) p0.len
  have hS0 : VS lo' H0.length 1 H0 y p S := (hS.pre p0).wide (Nat.le_refl _) p0.len
  have hl0 := mat_ld0 hR0 hp
  have hl1 := mat_ld0 hS0 hp
  have r0 := (hrow 0 (by omega)).pre p0
  have s0 := (hsow 0 (by omega)).pre p0
  have mH := MatB.pre m p0
  have kH := MatB.pre k p0
  (repeat' first | simp -dsimp (disch := first | omega | assumption | (refine OkS.sto ?_ (by omega); first | assumption | (refine OkS.sto ?_ (by omega); first | assumption | (refine OkS.sto ?_ (by omega); first | assumption | (refine OkS.sto ?_ (by omega); first | assumption | (refine OkS.sto ?_ (by omega); first | assumption | (refine OkS.sto ?_ (by omega); first | assumption)))))) | exact Pfx.refl _ | (apply Pfx.snoc; repeat (first | exact Pfx.refl _ | assumption | apply Pfx.snoc)) | with_unfolding_all exact of_eq_true (eq_true rfl) | (simp only [List.length_append, List.length_cons, List.length_nil]; omega)) only [↓gpre0, ↓wpre1, ↓reduceIte, Int.reduceToNat, Nat.reduceAdd, Nat.reduceMul, Nat.reduceEqDiff, wpost0, wpost1, wpost2, wpost3, wpost4, ite_self, ite_true, ite_false, if_true, if_false, tze38, xld38, un_not, xfad38_0, xld36, xlen36, bin_neq, xiad36, xld44, xlen44, xbld38, xst38, fr29, wrap_int, wrap_u8, iteP_yes, iteP_no, n1, n2, c0, c1, C0, C1, hS0.iad Try.underlying36 tsz44, hl1, s0.len, Valid_r hX mH hp hp8 hq hq8, Valid_r hX kH hp hp8 hq hq8, hR0.len Try.underlying36, hR0.iad Try.underlying36 tsz44, hl0, r0.len, hS0.len Try.underlying36] | refine iteP_two (fun hc hd => ?_) (fun hc hd => ?_) | refine iteP_intro (fun hc => ?_) (fun hc => ?_))
  refine cf_rel (matrixBy_c hX (p := p) (q := q) (M := fun i j => addB (M i j) (K i j)) 122 [.pointer (some ⟨h.length, 0, none⟩), .pointer (some ⟨h.length + 1, 0, none⟩)] (by omega) (by omega) (by omega) (fun H i j hH hi hj => addF_r hX (by rw [hH.get (by omega)]; exact D0) (by rw [hH.get (by omega)]; exact D1) (mH.pre hH) (kH.pre hH) hi hj)) (fun q => by cases q) ?_
  rintro r H1 ⟨z, rfl, p1, mZ, hnf⟩
  have lp1 := p1.len
  have E2 : H1[h.length + 2]? = some ⟨38, [.slice none 0 0]⟩ := by rw [p1.get (by omega)]; exact D2
  have hsz : one z = true := by
    obtain ⟨R', hR', _⟩ := mZ
    exact hR'.shape.2.2
  have P2 : put ro H1 (h.length + 2) 0 1 (matV z) = some (H1.set (h.length + 2) ⟨38, [z]⟩) := putb (n := 1) (o := 0) E2 (by omega) rfl (by simp) (by simp [cellsOf, hsz])
  have C2 : cells (H1.set (h.length + 2) ⟨38, [z]⟩) (h.length + 2) 0 1 = some (.agg ⟨[z]⟩) := cells_set (o := 0) (n := 1) (by omega) (by simp)
  have mS := (mZ.set (b := h.length + 2) (C := ⟨38, [z]⟩) (by omega)).low (show h.length ≤ H0.length + 2 by omega)
  have pS : Pfx h (H1.set (h.length + 2) ⟨38, [z]⟩) := (p0.trans p1).set (by omega)
  have hnt : Sim.flat (.tuple ⟨[matV z, .bool true]⟩) = false := by
    obtain ⟨R', hR', _⟩ := mZ
    rcases hR'.2 with ⟨_, rfl⟩ | ⟨b, o, cap, Bk, rfl, _⟩ <;> rfl
  (repeat' first | simp -dsimp (disch := first | omega | assumption | (refine OkS.sto ?_ (by omega); first | assumption | (refine OkS.sto ?_ (by omega); first | assumption | (refine OkS.sto ?_ (by omega); first | assumption | (refine OkS.sto ?_ (by omega); first | assumption | (refine OkS.sto ?_ (by omega); first | assumption | (refine OkS.sto ?_ (by omega); first | assumption)))))) | exact Pfx.refl _ | (apply Pfx.snoc; repeat (first | exact Pfx.refl _ | assumption | apply Pfx.snoc)) | with_unfolding_all exact of_eq_true (eq_true rfl) | (simp only [List.length_append, List.length_cons, List.length_nil]; omega)) only [↓gpre0, ↓wpre1, ↓reduceIte, Int.reduceToNat, Nat.reduceAdd, Nat.reduceMul, Nat.reduceEqDiff, wpost0, wpost1, wpost2, wpost3, wpost4, ite_self, ite_true, ite_false, if_true, if_false, tze38, xld38, un_not, xfad38_0, xld36, xlen36, bin_neq, xiad36, xld44, xlen44, xbld38, xst38, fr29, wrap_int, wrap_u8, iteP_yes, iteP_no, n1, n2, P2, C2, endH_not hnt] | refine iteP_two (fun hc hd => ?_) (fun hc hd => ?_) | refine iteP_intro (fun hc => ?_) (fun hc => ?_))
  exact ⟨z, rfl, pS, mS⟩
noncomputable def cAdd : Code := (Try.f29.body).get rfl
theorem cAdd_body : Try.f29.body = some cAdd := (Option.some_get _).symm
def preAdd (f : PI) (args : List Value) (h : Heap) : Prop := args = [matV f.m.x, matV f.k.x] ∧ f.m.ok h ∧ f.k.ok h ∧ f.m.p = f.k.p ∧ f.m.q = f.k.q
def rAdd (f : PI) (args : List Value) (h : Heap) (r : Value × Heap) : Prop := NewT h f.m.p f.m.q (fun i j => addB (f.m.M i j) (f.k.M i j)) r
noncomputable def xAdd (ro : Nat) (X : Ext) : Ext := fun g => if g = 29 then some (fG Try.prog ro X Try.f29 cAdd (RA preAdd rAdd)) else none
theorem xAdd_ok {B : Base} (hX : XOk Try.prog ro B X) : XOk Try.prog ro B (xAdd ro X) := fGX_ok mixed hX Try.func29 cAdd_body (by decide) (by kernel_rfl)
theorem AddM_c {X' : Ext} (hX : XN X) (hx : X' 29 = xAdd ro X 29) (m : MatB lo h x p q M) (k : MatB lo' h y p q K) (hp : 1 ≤ p) (hp8 : p ≤ 8) (hq : 1 ≤ q) (hq8 : q ≤ 8) (hro : ro ≤ h.length) :
    CallR Try.prog ro X' 29 [matV x, matV y] h (fun r h' => NewT h p q (fun i j => addB (M i j) (K i j)) (r, h')) := by
  refine fG_callA (pre := preAdd) (R := rAdd) (hx.trans (by unfold xAdd; rw [if_pos rfl])) (Nat.le_of_ble_eq_true rfl) (fun i hi => ?_) (⟨⟨lo, x, p, q, M⟩, ⟨lo', y, p, q, K⟩⟩) ⟨rfl, ⟨m, hp, hp8, hq, hq8⟩, ⟨k, hp, hp8, hq, hq8⟩, rfl, rfl⟩
  obtain ⟨⟨lo1, x1, p1, q1, M1⟩, ⟨lo2, x2, p2, q2, M2⟩⟩ := i
  obtain ⟨e1, ⟨g1, g2, g3, g4, g5⟩, ⟨k1, k2, k3, k4, k5⟩, f5, f6⟩ := hi
  simp only at f5 f6
  subst f5 f6
  rw [e1]
  exact addM_w hX cAdd_body g1 k1 g2 g3 g4 g5 hro
/-- AdjointOf. -/
theorem AdjOf_c {X0 : Ext} (hX0 : XN X0) (hX : XN X) (hx : X 119 = xAdj ro X0 119) (m : MatB lo h x p q M) (hp : 1 ≤ p) (hp8 : p ≤ 8) (hq : 1 ≤ q) (hq8 : q ≤ 8) (hro : ro ≤ h.length) :
    CallR Try.prog ro X 25 [matV x] h (fun r h' => NewT h q p (fun a b => cjB (M b a)) (r, h')) := by
  obtain ⟨R, hR, hrow⟩ := id m
  have hb := box_mat hR h
  refine callR_of (hX _ rfl) Try.func25 rfl (by kernel_rfl) (Nat.le_of_ble_eq_true rfl) ?_
  (repeat' first | simp -dsimp (disch := first | omega | assumption | (refine OkS.sto ?_ (by omega); first | assumption | (refine OkS.sto ?_ (by omega); first | assumption | (refine OkS.sto ?_ (by omega); first | assumption | (refine OkS.sto ?_ (by omega); first | assumption | (refine OkS.sto ?_ (by omega); first | assumption | (refine OkS.sto ?_ (by omega); first | assumption)))))) | exact Pfx.refl _ | (apply Pfx.snoc; repeat (first | exact Pfx.refl _ | assumption | apply Pfx.snoc)) | with_unfolding_all exact of_eq_true (eq_true rfl) | (simp only [List.length_append, List.length_cons, List.length_nil]; omega)) only [↓wpre0, ↓wpre1, ↓reduceIte, Int.reduceToNat, Nat.reduceAdd, Nat.reduceMul, Nat.reduceEqDiff, wpost0, wpost1, wpost2, wpost3, wpost4, ite_self, ite_true, ite_false, if_true, if_false, tze38, xld38, un_not, xbld38, xst38, fr25, wrap_int, wrap_u8, iteP_yes, iteP_no, hb] | refine iteP_two (fun hc hd => ?_) (fun hc hd => ?_) | refine iteP_intro (fun hc => ?_) (fun hc => ?_))
  obtain ⟨H0, hH0⟩ : ∃ H0, H0 = h ++ [(⟨38, [x]⟩ : Blk)] ++ [(⟨38, [.slice none 0 0]⟩ : Blk)] := ⟨_, rfl⟩
  have p0 : Pfx h H0 := by rw [hH0]; exact (Pfx.refl h).snoc.snoc
  have l0 : H0.length = h.length + 2 := by rw [hH0]; simp
  have D0 : H0[h.length]? = some ⟨38, [x]⟩ := by rw [hH0, get_skip (by simp)]; exact get_last rfl
  have D1 : H0[h.length + 1]? = some ⟨38, [.slice none 0 0]⟩ := by rw [hH0]; exact get_last (by simp)
  have n1 : List.length (h ++ [(⟨38, [x]⟩ : Blk)]) = h.length + 1 := by simp
  have C0 : cells H0 h.length 0 1 = some (.agg ⟨[x]⟩) := cellsb (n := 1) (o := 0) D0 (by simp)
  rw [← hH0]
  have mH := MatB.pre m p0
  (repeat' first | simp -dsimp (disch := first | omega | assumption | (refine OkS.sto ?_ (by omega); first | assumption | (refine OkS.sto ?_ (by omega); first | assumption | (refine OkS.sto ?_ (by omega); first | assumption | (refine OkS.sto ?_ (by omega); first | assumption | (refine OkS.sto ?_ (by omega); first | assumption | (refine OkS.sto ?_ (by omega); first | assumption)))))) | exact Pfx.refl _ | (apply Pfx.snoc; repeat (first | exact Pfx.refl _ | assumption | apply Pfx.snoc)) | with_unfolding_all exact of_eq_true (eq_true rfl) | (simp only [List.length_append, List.length_cons, List.length_nil]; omega)) only [↓wpre0, ↓wpre1, ↓reduceIte, Int.reduceToNat, Nat.reduceAdd, Nat.reduceMul, Nat.reduceEqDiff, wpost0, wpost1, wpost2, wpost3, wpost4, ite_self, ite_true, ite_false, if_true, if_false, tze38, xld38, un_not, xbld38, xst38, fr25, wrap_int, wrap_u8, iteP_yes, iteP_no, C0, Valid_r hX mH hp hp8 hq hq8] | refine iteP_two (fun hc hd => ?_) (fun hc hd => ?_) | refine iteP_intro (fun hc => ?_) (fun hc => ?_))
  refine cf_rel (adj_c hX0 hx mH hp hp8 hq hq8 (by omega)) (fun q => by cases q) ?_
  rintro r H1 ⟨z, e1, p1, mZ, hnf⟩
  simp only at e1 p1 mZ
  subst e1
  have lp1 := p1.len
  have E2 : H1[h.length + 1]? = some ⟨38, [.slice none 0 0]⟩ := by rw [p1.get (by omega)]; exact D1
  have hsz : one z = true := by
    obtain ⟨R', hR', _⟩ := mZ
    exact hR'.shape.2.2
  have P2 : put ro H1 (h.length + 1) 0 1 (matV z) = some (H1.set (h.length + 1) ⟨38, [z]⟩) := putb (n := 1) (o := 0) E2 (by omega) rfl (by simp) (by simp [cellsOf, hsz])
  have C2 : cells (H1.set (h.length + 1) ⟨38, [z]⟩) (h.length + 1) 0 1 = some (.agg ⟨[z]⟩) := cells_set (o := 0) (n := 1) (by omega) (by simp)
  have mS := (mZ.set (b := h.length + 1) (C := ⟨38, [z]⟩) (by omega)).low (show h.length ≤ H0.length by omega)
  have pS : Pfx h (H1.set (h.length + 1) ⟨38, [z]⟩) := (p0.trans p1).set (by omega)
  have hnt : Sim.flat (.tuple ⟨[matV z, .bool true]⟩) = false := by
    obtain ⟨R', hR', _⟩ := mZ
    rcases hR'.2 with ⟨_, rfl⟩ | ⟨b, o, cap, Bk, rfl, _⟩ <;> rfl
  (repeat' first | simp -dsimp (disch := first | omega | assumption | (refine OkS.sto ?_ (by omega); first | assumption | (refine OkS.sto ?_ (by omega); first | assumption | (refine OkS.sto ?_ (by omega); first | assumption | (refine OkS.sto ?_ (by omega); first | assumption | (refine OkS.sto ?_ (by omega); first | assumption | (refine OkS.sto ?_ (by omega); first | assumption)))))) | exact Pfx.refl _ | (apply Pfx.snoc; repeat (first | exact Pfx.refl _ | assumption | apply Pfx.snoc)) | with_unfolding_all exact of_eq_true (eq_true rfl) | (simp only [List.length_append, List.length_cons, List.length_nil]; omega)) only [↓wpre0, ↓wpre1, ↓reduceIte, Int.reduceToNat, Nat.reduceAdd, Nat.reduceMul, Nat.reduceEqDiff, wpost0, wpost1, wpost2, wpost3, wpost4, ite_self, ite_true, ite_false, if_true, if_false, tze38, xld38, un_not, xbld38, xst38, fr25, wrap_int, wrap_u8, iteP_yes, iteP_no, n1, P2, C2, endH_not hnt] | refine iteP_two (fun hc hd => ?_) (fun hc hd => ?_) | refine iteP_intro (fun hc => ?_) (fun hc => ?_))
  exact ⟨z, rfl, pS, mS⟩
end Go.Proofs.Ytelogajobjflfaa.Sim
