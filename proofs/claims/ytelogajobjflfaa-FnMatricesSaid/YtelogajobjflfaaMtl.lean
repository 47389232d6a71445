/- The law FnMatrices: what its matrices are worth. Lemmas only; no condition. -/
import Derived.Test.YtelogajobjflfaaMtk
import Derived.Test.YtelogajobjflfaaLah
set_option linter.unusedSimpArgs false
set_option linter.unusedVariables false
set_option maxRecDepth 8000
namespace Go.Proofs.Ytelogajobjflfaa.Sim
open Go Go.RowKit Fl
variable {ro lo lo' hi : Nat} {X : Ext} {h : Heap} {x y : Value} {n p q r s b : Nat} {f g : Nat → CB} {M K : Nat → Nat → CB} {a : Nat → Nat → ZC}
theorem MatB.congr (m : MatB lo h x p q M) (hk : ∀ i j, i < p → j < q → M i j = K i j) : MatB lo h x p q K := by
  obtain ⟨R, h1, h2⟩ := m
  refine ⟨R, h1, fun i hi => ?_⟩
  have := h2 i hi
  unfold RowB at this ⊢
  rw [← rowV_congr fun j hj => hk i j hi hj]
  exact this
/-- A matrix that is kept in a block. -/
def MK (G : Heap) (b : Nat) (z : Value) (p q : Nat) (M : Nat → Nat → CB) : Prop := G[b]? = some ⟨38, [z]⟩ ∧ MatB 0 G z p q M
theorem MK.pre {G G' : Heap} {z : Value} (k : MK G b z p q M) (hp : Pfx G G') : MK G' b z p q M := ⟨by rw [hp.get (lt_of_some k.1)]; exact k.1, k.2.pre hp⟩
theorem MK.new {G : Heap} {z : Value} (m : MatB lo G z p q M) : MK (G ++ [(⟨38, [z]⟩ : Blk)]) G.length z p q M := ⟨get_last rfl, (m.low (Nat.zero_le _)).pre (Pfx.refl G).snoc⟩
theorem MK.ld {G : Heap} {z : Value} (k : MK G b z p q M) : cells G b 0 1 = some (.agg ⟨[z]⟩) := cellsb (n := 1) (o := 0) k.1 (by simp)
theorem MK.cell {G : Heap} {z : Value} (k : MK G b z p q M) : cell G b 0 = some z := cellb k.1
theorem mat_put {G : Heap} {z : Value} (m : MatB lo G z p q M) (hro : ro ≤ G.length) : put ro (G ++ [(⟨38, [.slice none 0 0]⟩ : Blk)]) G.length 0 1 (matV z) = some (G ++ [(⟨38, [z]⟩ : Blk)]) := by
  obtain ⟨R, hR, _⟩ := m
  exact put_last rfl hro rfl (by simp [cellsOf]) (by simp [cellsOf, hR.shape.2.2])
/-! ### Values -/
theorem eqB_of {t : Nat} {z : ZC} {u v : CB} (hu : cN t z u) (hv : cN t z v) : eqB u v = true := by
  unfold eqB
  rw [cmp_eq hu.1 hv.1, cmp_eq hu.2 hv.2]
  simp
theorem one_fin : Fl.fin .f32 1065353216 (1 * 2 ^ 149) := ⟨false, 8388608, 126, by decide +kernel, by decide⟩
theorem oneB_ok : cN 149 ZC.one oneB := ⟨one_fin, by show Fl.fin .f32 0 (0 * 2 ^ 149); rw [Int.zero_mul]; exact zero_fin⟩
def unitZ (i j : Nat) : ZC := if i = j then ZC.one else ZC.zero
theorem unitB_ok (i j : Nat) : cN 149 (unitZ i j) (unitB i j) := by
  unfold unitZ unitB
  split
  · exact oneB_ok
  · exact zeroB_ok 149
theorem unitZ_le (i j : Nat) : (unitZ i j).le 1 := by
  unfold unitZ
  split <;> exact ⟨by decide, by decide⟩
theorem two_fin : Fl.fin .f32 1073741824 (2 * 2 ^ 149) := ⟨false, 8388608, 127, by decide +kernel, by decide⟩
theorem twice_ok {z : ZC} {u : CB} (hu : cN 149 z u) (hz : z.le 4) : cN 149 (z.add z) (scB u 1073741824) := by
  obtain ⟨h1, h2⟩ := hz
  have b1 : (z.re * 2).natAbs < 2 ^ 24 := by omega
  have b2 : (z.im * 2).natAbs < 2 ^ 24 := by omega
  have e1 := mul_fx (k := .f32) (t := 149) hu.1 two_fin (by decide) b1 (small_pow b1 (by decide))
  have e2 := mul_fx (k := .f32) (t := 149) hu.2 two_fin (by decide) b2 (small_pow b2 (by decide))
  refine ⟨?_, ?_⟩
  · show Fl.fin .f32 (farith .mul .f32 u.a 1073741824) ((z.re + z.re) * 2 ^ 149)
    rw [show z.re + z.re = z.re * 2 by omega]; exact e1
  · show Fl.fin .f32 (farith .mul .f32 u.b 1073741824) ((z.im + z.im) * 2 ^ 149)
    rw [show z.im + z.im = z.im * 2 by omega]; exact e2
theorem cj_tab : ∀ i : Fin 9, cf .f32 (Op.negFloat .f32 (cf .f32 (Op.negFloat .f32 (fI ((i.val : Int) - 4))))) = fI ((i.val : Int) - 4) := by decide +kernel
theorem cj_cj {z : ZC} (hz : z.le 4) : cjB (cjB (intB z)) = intB z := by
  obtain ⟨h1, h2⟩ := hz
  have e := cj_tab ⟨(z.im + 4).toNat, by omega⟩
  simp only at e
  rw [show (((z.im + 4).toNat : Nat) : Int) - 4 = z.im by omega] at e
  unfold cjB intB
  simp only
  rw [e]
theorem intB4 {z : ZC} (hz : z.le 4) : cN 149 z (intB z) := intB_ok hz (by decide)
/-- Products of matrices of whole numbers. -/
theorem dot_ok {u v : Nat → CB} {z w : Nat → ZC} {k m : Nat} (hu : ∀ t, t < q → cN 149 (z t) (u t)) (hv : ∀ t, t < q → cN 149 (w t) (v t)) (bz : ∀ t, t < q → (z t).le k) (bw : ∀ t, t < q → (w t).le m) (hk : q * (2 * (k * m)) < 2 ^ 24) : cN 149 (ZC.sum q fun t => (z t).mul (w t)) (dotB u v q) := dotB_ok hu hv rfl (by decide) bz bw hk
theorem okM_of {u v : CB} {z w : ZC} {k m : Nat} (hu : cN 149 z u) (hv : cN 149 w v) (bz : z.le k) (bw : w.le m) (hk : 2 * (k * m) < 2 ^ 24) : okM u v := dotB_okM hu hv rfl (by decide) bz bw hk
theorem okF_cN {z : ZC} {u : CB} (h : cN 149 z u) : okF u.a ∧ okF u.b := ⟨okF_of h.1, okF_of h.2⟩
theorem same_sum (a : Nat → Nat → ZC) {i j : Nat} (hj : j < q) : (ZC.sum q fun t => (a i t).mul (unitZ t j)) = a i j := by
  rw [ZC.sum_one (j := j) hj fun t _ ht => by
    unfold unitZ
    rw [if_neg ht]
    refine ZC.ext' ?_ ?_ <;> simp [ZC.mul, ZC.zero]]
  unfold unitZ
  rw [if_pos rfl]
  refine ZC.ext' ?_ ?_ <;> simp [ZC.mul, ZC.one]
theorem herm_sum (a : Nat → Nat → ZC) (i j : Nat) : (ZC.sum q fun t => (a i t).mul (a j t).conj) = (ZC.sum q fun t => (a j t).mul (a i t).conj).conj := by
  rw [ZC.sum_conj]
  refine ZC.sum_congr fun t _ => ?_
  rw [ZC.mul_conj, ZC.conj_conj]
theorem adj_sum (a b : Nat → Nat → ZC) (i j : Nat) : (ZC.sum q fun t => (a j t).mul (b t i)).conj = ZC.sum q fun t => (b t i).conj.mul (a j t).conj := by
  rw [ZC.sum_conj]
  refine ZC.sum_congr fun t _ => ?_
  rw [ZC.mul_conj]
end Go.Proofs.Ytelogajobjflfaa.Sim
