/- Rows and matrices of complex numbers. Lemmas only; no condition. -/
import Derived.Test.YtkhipobafchilaaCpx
set_option linter.unusedSimpArgs false
set_option linter.unusedVariables false
set_option maxRecDepth 8000
namespace Go.Proofs.Ytkhipobafchilaa.Sim
open Go Go.RowKit
variable {ro : Nat} {X : Ext}
def rowV (n : Nat) (f : Nat → CB) : List Value := (List.range n).map fun i => toV (f i)
theorem rowV_len (n : Nat) (f : Nat → CB) : (rowV n f).length = n := by simp [rowV]
theorem rowV_succ (n : Nat) (f : Nat → CB) : rowV (n + 1) f = rowV n f ++ [toV (f n)] := by simp [rowV, List.range_succ]
theorem rowV_at {n : Nat} {f : Nat → CB} {i : Nat} (h : i < n) : vth (rowV n f) i = toV (f i) := by
  rw [vth_eq (by rw [rowV_len]; exact h)]
  simp [rowV]
theorem rowV_congr {n : Nat} {f g : Nat → CB} (h : ∀ i, i < n → f i = g i) : rowV n f = rowV n g := by
  unfold rowV
  refine List.map_congr_left fun i hi => ?_
  rw [h i (by simpa using hi)]
/-- A row of complex numbers. -/
def RowB (lo : Nat) (h : Heap) (x : Value) (n : Nat) (f : Nat → CB) : Prop := VS lo h.length 1 h x n (rowV n f)
/-- A matrix of complex numbers. -/
def MatB (lo : Nat) (h : Heap) (x : Value) (p q : Nat) (M : Nat → Nat → CB) : Prop := ∃ R, VS lo h.length 1 h x p R ∧ ∀ i, i < p → RowB lo h (vth R i) q (M i)
section rb
variable {lo : Nat} {h h' : Heap} {x : Value} {n p q : Nat} {f : Nat → CB} {M : Nat → Nat → CB}
theorem RowB.pre (r : RowB lo h x n f) (hp : Pfx h h') : RowB lo h' x n f := (VS.pre r hp).wide (Nat.le_refl _) hp.len
theorem RowB.len (r : RowB lo h x n f) (h' : Heap) : ablt Try.prog ro .len [29] [x] h' = some (.int .i64 n, h') := VS.len r Try.underlying29 h'
theorem RowB.iad (r : RowB lo h x n f) (kk : IntKind) {i : Int} (h0 : 0 ≤ i) (h1 : i < n) : iadr Try.prog 29 x (.int kk i) = some (ea x (i.toNat * 1)) := VS.iad r Try.underlying29 tsz32 kk h0 h1
theorem RowB.ld (r : RowB lo h x n f) {i : Nat} (hi : i < n) : ld Try.prog h 32 (ea x (i * 1)) = some (toV (f i)) := by
  rw [VS.ld1 r tsz32 tag32 (by omega), Nat.mul_one, rowV_at hi]
theorem RowB.low {lo' : Nat} (r : RowB lo h x n f) (hl : lo' ≤ lo) : RowB lo' h x n f := VS.wide r hl (Nat.le_refl _)
theorem MatB.low {lo' : Nat} (m : MatB lo h x p q M) (hl : lo' ≤ lo) : MatB lo' h x p q M := by
  obtain ⟨R, h1, h2⟩ := m
  exact ⟨R, h1.wide hl (Nat.le_refl _), fun i hi => (h2 i hi).low hl⟩
/-- .. but for a block below. -/
theorem RowB.set {b : Nat} {C : Blk} (r : RowB lo h x n f) (hb : b < lo) : RowB lo (h.set b C) x n f := by
  unfold RowB
  rw [List.length_set]
  exact VS.frame r fun c h1 h2 => set_get (by omega)
theorem MatB.set {b : Nat} {C : Blk} (m : MatB lo h x p q M) (hb : b < lo) : MatB lo (h.set b C) x p q M := by
  obtain ⟨R, h1, h2⟩ := m
  refine ⟨R, ?_, fun i hi => (h2 i hi).set hb⟩
  rw [List.length_set]
  exact h1.frame fun c g1 g2 => set_get (by omega)
theorem MatB.pre (m : MatB lo h x p q M) (hp : Pfx h h') : MatB lo h' x p q M := by
  obtain ⟨R, h1, h2⟩ := m
  exact ⟨R, (h1.pre hp).wide (Nat.le_refl _) hp.len, fun i hi => (h2 i hi).pre hp⟩
end rb
variable {lo lo' : Nat} {h : Heap} {x y : Value} {n p q : Nat} {f g : Nat → CB} {M : Nat → Nat → CB}
set_option maxHeartbeats 1000000 in
theorem dotWith_r (hX : XN X) (hA : RowB lo h x n f) (hB : RowB lo' h y n g) (hn : n ≤ 64) (F : FuncId) (ch : CB → CB) (hF : ∀ u, Ret Try.prog ro X F [toV u] h (toV (ch u))) (hok : ∀ i, i < n → okM (ch (f i)) (g i)) :
    Ret Try.prog ro X 69 [x, y, .func (.func F) ⟨[]⟩ ⟨[]⟩] h (.tuple ⟨[toV (dotB (fun i => ch (f i)) g n), .bool true]⟩) := by
  refine ret_of (callR_of (hX _ rfl) Try.func69 rfl (by kernel_rfl) (Nat.le_of_ble_eq_true rfl) ?_)
  (repeat' first | simp -dsimp (disch := first | omega | assumption | (refine OkS.sto ?_ (by omega); first | assumption | (refine OkS.sto ?_ (by omega); first | assumption | (refine OkS.sto ?_ (by omega); first | assumption | (refine OkS.sto ?_ (by omega); first | assumption | (refine OkS.sto ?_ (by omega); first | assumption | (refine OkS.sto ?_ (by omega); first | assumption)))))) | exact Pfx.refl _ | (apply Pfx.snoc; repeat (first | exact Pfx.refl _ | assumption | apply Pfx.snoc)) | with_unfolding_all exact of_eq_true (eq_true rfl) | (simp only [List.length_append, List.length_cons, List.length_nil]; omega)) only [↓wpre0, ↓wpre1, ↓reduceIte, Int.reduceToNat, Nat.reduceAdd, Nat.reduceMul, Nat.reduceEqDiff, wpost0, wpost1, wpost2, wpost3, wpost4, ite_self, ite_true, ite_false, if_true, if_false, xlen29, bin_gtr, bin_neq, bin_lss, xiad29, xld32, bin_add, fr69, wrap_int, wrap_u8, iteP_yes, iteP_no, hA.len, hB.len] | refine iteP_two (fun hc hd => ?_) (fun hc hd => ?_) | refine iteP_intro (fun hc => ?_) (fun hc => ?_))
  refine loop_rounds (fun m e h' => ∃ i : Nat, m = n - i ∧ i ≤ n ∧ h' = h ∧ e 0 = x ∧ e 1 = y ∧ e 2 = .func (.func F) ⟨[]⟩ ⟨[]⟩ ∧ e 8 = toV (dotB (fun i => ch (f i)) g i) ∧ e 21 = .int .i64 n ∧ e 22 = .int .i64 i) _ ⟨0, rfl, ?_⟩ ?_
  · simp only [updO_at, updO_not, entry_at, List.getD_cons_zero, List.getD_cons_succ, ↓reduceIte, Nat.reduceEqDiff, true_and, and_true]
    (repeat' (first | assumption | rfl | omega | refine And.intro ?_ ?_))
  · rintro m e h' ⟨i, hm, hle, rfl, g0, g1, g2, g8, g21, g22⟩
    have hks : (i : Int) + 1 = ((i + 1 : Nat) : Int) := by omega
    by_cases hin : i < n
    · (repeat' first | simp -dsimp (disch := first | omega | assumption | (refine OkS.sto ?_ (by omega); first | assumption | (refine OkS.sto ?_ (by omega); first | assumption | (refine OkS.sto ?_ (by omega); first | assumption | (refine OkS.sto ?_ (by omega); first | assumption | (refine OkS.sto ?_ (by omega); first | assumption | (refine OkS.sto ?_ (by omega); first | assumption)))))) | exact Pfx.refl _ | (apply Pfx.snoc; repeat (first | exact Pfx.refl _ | assumption | apply Pfx.snoc)) | with_unfolding_all exact of_eq_true (eq_true rfl) | (simp only [List.length_append, List.length_cons, List.length_nil]; omega)) only [↓wpre0, ↓wpre1, ↓reduceIte, Int.reduceToNat, Nat.reduceAdd, Nat.reduceMul, Nat.reduceEqDiff, wpost0, wpost1, wpost2, wpost3, wpost4, ite_self, ite_true, ite_false, if_true, if_false, xlen29, bin_gtr, bin_neq, bin_lss, xiad29, xld32, bin_add, fr69, wrap_int, wrap_u8, iteP_yes, iteP_no, g0, g1, g2, g8, g21, g22, hA.iad, hB.iad, hA.ld, hB.ld, hF, Mul_r hX (hok i hin), Add_r hX] | refine iteP_two (fun hc hd => ?_) (fun hc hd => ?_) | refine iteP_intro (fun hc => ?_) (fun hc => ?_))
      refine ⟨n - (i + 1), by omega, i + 1, ?_⟩
      (repeat' (first | assumption | rfl | omega | (rw [hks]) | refine And.intro ?_ ?_))
    · have : i = n := by omega
      subst this
      (repeat' first | simp -dsimp (disch := first | omega | assumption | (refine OkS.sto ?_ (by omega); first | assumption | (refine OkS.sto ?_ (by omega); first | assumption | (refine OkS.sto ?_ (by omega); first | assumption | (refine OkS.sto ?_ (by omega); first | assumption | (refine OkS.sto ?_ (by omega); first | assumption | (refine OkS.sto ?_ (by omega); first | assumption)))))) | exact Pfx.refl _ | (apply Pfx.snoc; repeat (first | exact Pfx.refl _ | assumption | apply Pfx.snoc)) | with_unfolding_all exact of_eq_true (eq_true rfl) | (simp only [List.length_append, List.length_cons, List.length_nil]; omega)) only [↓wpre0, ↓wpre1, ↓reduceIte, Int.reduceToNat, Nat.reduceAdd, Nat.reduceMul, Nat.reduceEqDiff, wpost0, wpost1, wpost2, wpost3, wpost4, ite_self, ite_true, ite_false, if_true, if_false, xlen29, bin_gtr, bin_neq, bin_lss, xiad29, xld32, bin_add, fr69, wrap_int, wrap_u8, iteP_yes, iteP_no, g0, g1, g2, g8, g21, g22] | refine iteP_two (fun hc hd => ?_) (fun hc hd => ?_) | refine iteP_intro (fun hc => ?_) (fun hc => ?_))
theorem DotC_r (hX : XN X) (hA : RowB lo h x n f) (hB : RowB lo' h y n g) (hn : n ≤ 64) (hok : ∀ i, i < n → okM (cjB (f i)) (g i)) : Ret Try.prog ro X 52 [x, y] h (.tuple ⟨[toV (dotB (fun i => cjB (f i)) g n), .bool true]⟩) := by
  refine ret_of (callR_of (hX _ rfl) Try.func52 rfl (by kernel_rfl) (Nat.le_of_ble_eq_true rfl) ?_)
  (repeat' first | simp -dsimp (disch := first | omega | assumption | (refine OkS.sto ?_ (by omega); first | assumption | (refine OkS.sto ?_ (by omega); first | assumption | (refine OkS.sto ?_ (by omega); first | assumption | (refine OkS.sto ?_ (by omega); first | assumption | (refine OkS.sto ?_ (by omega); first | assumption | (refine OkS.sto ?_ (by omega); first | assumption)))))) | exact Pfx.refl _ | (apply Pfx.snoc; repeat (first | exact Pfx.refl _ | assumption | apply Pfx.snoc)) | with_unfolding_all exact of_eq_true (eq_true rfl) | (simp only [List.length_append, List.length_cons, List.length_nil]; omega)) only [↓wpre0, ↓wpre1, ↓reduceIte, Int.reduceToNat, Nat.reduceAdd, Nat.reduceMul, Nat.reduceEqDiff, wpost0, wpost1, wpost2, wpost3, wpost4, ite_self, ite_true, ite_false, if_true, if_false, fr52, wrap_int, wrap_u8, iteP_yes, iteP_no, dotWith_r hX hA hB hn 40 cjB (fun u => Conj_r hX u h) hok] | refine iteP_two (fun hc hd => ?_) (fun hc hd => ?_) | refine iteP_intro (fun hc => ?_) (fun hc => ?_))
end Go.Proofs.Ytkhipobafchilaa.Sim
