/- Sums of whole complex numbers, in plain Lean. Lemmas only; no condition. -/
import Derived.Test.YtkhipobafchilaaVs
import Derived.Test.YtkhipobafchilaaFle
import Derived.Test.YtkhipobafchilaaFlb
import Derived.Test.YtkhipobafchilaaSimU
import Derived.Test.YtkhipobafchilaaAcc
set_option linter.unusedSimpArgs false
set_option linter.unusedVariables false
namespace Go.Proofs.Ytkhipobafchilaa.Sim
/-- A complex number of whole parts. -/
structure ZC where
  re : Int
  im : Int
deriving DecidableEq
namespace ZC
theorem ext' {a b : ZC} (h1 : a.re = b.re) (h2 : a.im = b.im) : a = b := by cases a; cases b; simp_all
def zero : ZC := ⟨0, 0⟩
def one : ZC := ⟨1, 0⟩
def add (a b : ZC) : ZC := ⟨a.re + b.re, a.im + b.im⟩
def mul (a b : ZC) : ZC := ⟨a.re * b.re - a.im * b.im, a.re * b.im + a.im * b.re⟩
def conj (a : ZC) : ZC := ⟨a.re, -a.im⟩
/-- At most so great, both parts. -/
def le (k : Nat) (a : ZC) : Prop := a.re.natAbs ≤ k ∧ a.im.natAbs ≤ k
/-- A sum of so many. -/
def sum : Nat → (Nat → ZC) → ZC
  | 0, _ => zero
  | n + 1, f => (sum n f).add (f n)
theorem sum_congr : ∀ {n : Nat} {f g : Nat → ZC}, (∀ i, i < n → f i = g i) → sum n f = sum n g
  | 0, _, _, _ => rfl
  | n + 1, f, g, h => by
    simp only [sum]
    rw [sum_congr (n := n) (f := f) (g := g) fun i hi => h i (by omega), h n (by omega)]
theorem sum_conj : ∀ (n : Nat) (f : Nat → ZC), (sum n f).conj = sum n fun i => (f i).conj
  | 0, _ => rfl
  | n + 1, f => by
    simp only [sum]
    rw [← sum_conj n f]
    refine ext' ?_ ?_ <;> simp only [add, conj] <;> omega
theorem mul_conj (a b : ZC) : (a.mul b).conj = b.conj.mul a.conj := by
  refine ext' ?_ ?_ <;> simp only [mul, conj] <;> grind
theorem mul_comm (a b : ZC) : a.mul b = b.mul a := by
  refine ext' ?_ ?_ <;> simp only [mul] <;> grind
theorem mul_assoc (a b c : ZC) : (a.mul b).mul c = a.mul (b.mul c) := by
  refine ext' ?_ ?_ <;> simp only [mul] <;> grind
theorem conj_conj (a : ZC) : a.conj.conj = a := by
  refine ext' ?_ ?_ <;> simp only [conj] <;> omega
theorem mul_sum (c : ZC) : ∀ (n : Nat) (f : Nat → ZC), c.mul (sum n f) = sum n fun i => c.mul (f i)
  | 0, _ => by refine ext' ?_ ?_ <;> simp [mul, sum, zero]
  | n + 1, f => by
    simp only [sum]
    rw [← mul_sum c n f]
    refine ext' ?_ ?_ <;> simp only [add, mul] <;> grind
theorem sum_zero : ∀ (n : Nat), (sum n fun _ => zero) = zero
  | 0 => rfl
  | n + 1 => by simp only [sum, sum_zero n]; rfl
theorem sum_add : ∀ (n : Nat) (f g : Nat → ZC), (sum n fun i => (f i).add (g i)) = (sum n f).add (sum n g)
  | 0, _, _ => rfl
  | n + 1, f, g => by
    simp only [sum, sum_add n f g]
    refine ext' ?_ ?_ <;> simp only [add] <;> omega
theorem sum_swap : ∀ (n m : Nat) (f : Nat → Nat → ZC), (sum n fun i => sum m fun j => f i j) = sum m fun j => sum n fun i => f i j
  | 0, m, f => by simp only [sum]; rw [sum_zero]
  | n + 1, m, f => by simp only [sum]; rw [sum_swap n m f, sum_add]
/-- A sum of which one number is left. -/
theorem sum_one : ∀ {n j : Nat} {f : Nat → ZC}, j < n → (∀ i, i < n → i ≠ j → f i = zero) → sum n f = f j
  | 0, _, _, h, _ => by omega
  | n + 1, j, f, h, hz => by
    simp only [sum]
    by_cases e : j = n
    · subst e
      rw [sum_congr (g := fun _ => zero) fun i hi => hz i (by omega) (by omega), sum_zero]
      refine ext' ?_ ?_ <;> simp only [add, zero] <;> omega
    · rw [sum_one (j := j) (by omega) fun i hi hne => hz i (by omega) hne, hz n (by omega) (fun q => e q.symm)]
      refine ext' ?_ ?_ <;> simp only [add, zero] <;> omega
theorem sum_re_nonneg : ∀ (n : Nat) (f : Nat → ZC), (∀ i, i < n → 0 ≤ (f i).re ∧ (f i).im = 0) → 0 ≤ (sum n f).re ∧ (sum n f).im = 0
  | 0, _, _ => ⟨Int.le_refl _, rfl⟩
  | n + 1, f, h => by
    have h1 := sum_re_nonneg n f fun i hi => h i (by omega)
    have h2 := h n (by omega)
    simp only [sum, add]
    omega
theorem mul_self (a : ZC) : 0 ≤ (a.mul a.conj).re ∧ (a.mul a.conj).im = 0 := by
  simp only [mul, conj]
  constructor
  · have h1 : 0 ≤ a.re * a.re := by rcases Int.le_total 0 a.re with h | h; exact Int.mul_nonneg h h; exact Int.mul_nonneg_of_nonpos_of_nonpos h h
    have h2 : 0 ≤ a.im * a.im := by rcases Int.le_total 0 a.im with h | h; exact Int.mul_nonneg h h; exact Int.mul_nonneg_of_nonpos_of_nonpos h h
    rw [Int.mul_neg]
    omega
  · rw [Int.mul_neg, Int.mul_comm a.im a.re]
    omega
theorem le.mono {k m : Nat} {a : ZC} (h : le k a) (hk : k ≤ m) : le m a := ⟨Nat.le_trans h.1 hk, Nat.le_trans h.2 hk⟩
theorem le_add {k m : Nat} {a b : ZC} (h : le k a) (g : le m b) : le (k + m) (a.add b) := by
  obtain ⟨h1, h2⟩ := h
  obtain ⟨g1, g2⟩ := g
  simp only [le, add]
  omega
theorem le_conj {k : Nat} {a : ZC} (h : le k a) : le k a.conj := by
  obtain ⟨h1, h2⟩ := h
  simp only [le, conj]
  omega
theorem abs_mul_le {a b : Int} {k m : Nat} (h : a.natAbs ≤ k) (g : b.natAbs ≤ m) : (a * b).natAbs ≤ k * m := by
  rw [Int.natAbs_mul]
  exact Nat.mul_le_mul h g
theorem le_mul {k m : Nat} {a b : ZC} (h : le k a) (g : le m b) : le (2 * (k * m)) (a.mul b) := by
  have h1 := abs_mul_le h.1 g.1
  have h2 := abs_mul_le h.2 g.2
  have h3 := abs_mul_le h.1 g.2
  have h4 := abs_mul_le h.2 g.1
  simp only [le, mul]
  omega
theorem le_sum {k : Nat} : ∀ {n : Nat} {f : Nat → ZC}, (∀ i, i < n → le k (f i)) → le (n * k) (sum n f)
  | 0, _, _ => by simp [le, sum, zero]
  | n + 1, f, h => by
    simp only [sum]
    rw [Nat.succ_mul]
    exact le_add (le_sum fun i hi => h i (by omega)) (h n (by omega))
/-- The form of a matrix times its adjoint. -/
theorem form_sum (p q : Nat) (a : Nat → Nat → ZC) (x : Nat → ZC) :
    (sum p fun i => (x i).conj.mul (sum p fun j => (sum q fun k => (a i k).mul (a j k).conj).mul (x j))) = sum q fun k => (sum p fun i => (x i).conj.mul (a i k)).mul (sum p fun i => (x i).conj.mul (a i k)).conj := by
  have h1 : ∀ i, (x i).conj.mul (sum p fun j => (sum q fun k => (a i k).mul (a j k).conj).mul (x j)) = sum q fun k => ((x i).conj.mul (a i k)).mul (sum p fun j => (x j).conj.mul (a j k)).conj := by
    intro i
    have h2 : (sum p fun j => (sum q fun k => (a i k).mul (a j k).conj).mul (x j)) = sum q fun k => (a i k).mul (sum p fun j => (x j).conj.mul (a j k)).conj := by
      have h3 : ∀ j, (sum q fun k => (a i k).mul (a j k).conj).mul (x j) = sum q fun k => (a i k).mul ((x j).conj.mul (a j k)).conj := by
        intro j
        rw [mul_comm, mul_sum]
        refine sum_congr fun k _ => ?_
        rw [mul_conj, conj_conj, ← mul_assoc, mul_comm (x j), mul_assoc, mul_comm (x j)]
      rw [sum_congr fun j _ => h3 j, sum_swap]
      refine sum_congr fun k _ => ?_
      rw [sum_conj, mul_sum]
    rw [h2, mul_sum]
    refine sum_congr fun k _ => ?_
    rw [mul_assoc]
  rw [sum_congr fun i _ => h1 i, sum_swap]
  refine sum_congr fun k _ => ?_
  generalize (sum p fun j => (x j).conj.mul (a j k)).conj = c
  rw [mul_comm, mul_sum]
  refine sum_congr fun i _ => ?_
  rw [mul_comm]
theorem form_ok (p q : Nat) (a : Nat → Nat → ZC) (x : Nat → ZC) : 0 ≤ (sum p fun i => (x i).conj.mul (sum p fun j => (sum q fun k => (a i k).mul (a j k).conj).mul (x j))).re ∧ (sum p fun i => (x i).conj.mul (sum p fun j => (sum q fun k => (a i k).mul (a j k).conj).mul (x j))).im = 0 := by
  rw [form_sum]
  exact sum_re_nonneg q _ fun k _ => mul_self _
end ZC
end Go.Proofs.Ytkhipobafchilaa.Sim

/- Complex numbers by their bits: sums and products, what they come to and what they are worth. Lemmas only; no condition. -/
set_option linter.unusedSimpArgs false
set_option linter.unusedVariables false
set_option maxRecDepth 8000
namespace Go.Proofs.Ytkhipobafchilaa.Sim
open Go Go.RowKit Fl
variable {ro : Nat} {X : Ext}
/-- A complex number by its bits. -/
structure CB where
  a : Nat
  b : Nat
abbrev toV (c : CB) : Value := .complex .f32 c.a c.b
def wd (b : Nat) : Nat := (fconv .f32 b .f64).getD 0
def nr (b : Nat) : Nat := (fconv .f64 b .f32).getD 0
def okW (b : Nat) : Prop := fconv .f32 b .f64 = some (wd b)
def okN (b : Nat) : Prop := fconv .f64 b .f32 = some (nr b)
theorem okW_of {b r : Nat} (h : fconv .f32 b .f64 = some r) : okW b ∧ wd b = r := by simp [okW, wd, h]
theorem okN_of {b r : Nat} (h : fconv .f64 b .f32 = some r) : okN b ∧ nr b = r := by simp [okN, nr, h]
def mre (u v : CB) : Nat := farith .sub .f64 (farith .mul .f64 (wd u.a) (wd v.a)) (farith .mul .f64 (wd u.b) (wd v.b))
def mim (u v : CB) : Nat := farith .add .f64 (farith .mul .f64 (wd u.a) (wd v.b)) (farith .mul .f64 (wd u.b) (wd v.a))
def mulB (u v : CB) : CB := ⟨nr (mre u v), nr (mim u v)⟩
def addB (u v : CB) : CB := ⟨farith .add .f32 u.a v.a, farith .add .f32 u.b v.b⟩
def cjB (u : CB) : CB := ⟨u.a, cf .f32 (Op.negFloat .f32 u.b)⟩
def okC (u : CB) : Prop := okW u.a ∧ okW u.b
def okM (u v : CB) : Prop := okC u ∧ okC v ∧ okN (mre u v) ∧ okN (mim u v)
theorem cv_w {h : Heap} {b : Nat} (k : okW b) : aconv Try.prog h 35 39 (.float .f32 b) = some (.float .f64 (wd b)) := by
  rw [conv_ff Try.underlying35 Try.underlying39, show fconv .f32 b .f64 = some (wd b) from k]; rfl
theorem cv_n {h : Heap} {b : Nat} (k : okN b) : aconv Try.prog h 39 35 (.float .f64 b) = some (.float .f32 (nr b)) := by
  rw [conv_ff Try.underlying39 Try.underlying35, show fconv .f64 b .f32 = some (nr b) from k]; rfl
theorem parts_r (hX : XN X) {u : CB} (k : okC u) (h : Heap) : Ret Try.prog ro X 58 [toV u] h (.tuple ⟨[.float .f64 (wd u.a), .float .f64 (wd u.b)]⟩) := by
  refine ret_of (callR_of (hX _ rfl) Try.func58 rfl (by kernel_rfl) (Nat.le_of_ble_eq_true rfl) ?_)
  (repeat' first | simp -dsimp (disch := first | omega | assumption | (refine OkS.sto ?_ (by omega); first | assumption | (refine OkS.sto ?_ (by omega); first | assumption | (refine OkS.sto ?_ (by omega); first | assumption | (refine OkS.sto ?_ (by omega); first | assumption | (refine OkS.sto ?_ (by omega); first | assumption | (refine OkS.sto ?_ (by omega); first | assumption)))))) | exact Pfx.refl _ | (apply Pfx.snoc; repeat (first | exact Pfx.refl _ | assumption | apply Pfx.snoc)) | with_unfolding_all exact of_eq_true (eq_true rfl) | (simp only [List.length_append, List.length_cons, List.length_nil]; omega)) only [↓wpre0, ↓wpre1, ↓reduceIte, Int.reduceToNat, Nat.reduceAdd, Nat.reduceMul, Nat.reduceEqDiff, wpost0, wpost1, wpost2, wpost3, wpost4, ite_self, ite_true, ite_false, if_true, if_false, blt_real, xcv35_39, blt_imag, fr58, wrap_int, wrap_u8, iteP_yes, iteP_no, cv_w k.1, cv_w k.2] | refine iteP_two (fun hc hd => ?_) (fun hc hd => ?_) | refine iteP_intro (fun hc => ?_) (fun hc => ?_))
theorem times_r (hX : XN X) (a b c d : Nat) (h : Heap) : Ret Try.prog ro X 59 [.float .f64 a, .float .f64 b, .float .f64 c, .float .f64 d] h (.tuple ⟨[.float .f64 (farith .sub .f64 (farith .mul .f64 a c) (farith .mul .f64 b d)), .float .f64 (farith .add .f64 (farith .mul .f64 a d) (farith .mul .f64 b c))]⟩) := by
  refine ret_of (callR_of (hX _ rfl) Try.func59 rfl (by kernel_rfl) (Nat.le_of_ble_eq_true rfl) ?_)
  (repeat' first | simp -dsimp (disch := first | omega | assumption | (refine OkS.sto ?_ (by omega); first | assumption | (refine OkS.sto ?_ (by omega); first | assumption | (refine OkS.sto ?_ (by omega); first | assumption | (refine OkS.sto ?_ (by omega); first | assumption | (refine OkS.sto ?_ (by omega); first | assumption | (refine OkS.sto ?_ (by omega); first | assumption)))))) | exact Pfx.refl _ | (apply Pfx.snoc; repeat (first | exact Pfx.refl _ | assumption | apply Pfx.snoc)) | with_unfolding_all exact of_eq_true (eq_true rfl) | (simp only [List.length_append, List.length_cons, List.length_nil]; omega)) only [↓wpre0, ↓wpre1, ↓reduceIte, Int.reduceToNat, Nat.reduceAdd, Nat.reduceMul, Nat.reduceEqDiff, wpost0, wpost1, wpost2, wpost3, wpost4, ite_self, ite_true, ite_false, if_true, if_false, bin_fmul, bin_fsub, bin_fadd, fr59, wrap_int, wrap_u8, iteP_yes, iteP_no] | refine iteP_two (fun hc hd => ?_) (fun hc hd => ?_) | refine iteP_intro (fun hc => ?_) (fun hc => ?_))
theorem Mul_r (hX : XN X) {u v : CB} (k : okM u v) (h : Heap) : Ret Try.prog ro X 38 [toV u, toV v] h (toV (mulB u v)) := by
  have k3 : okN (farith .sub .f64 (farith .mul .f64 (wd u.a) (wd v.a)) (farith .mul .f64 (wd u.b) (wd v.b))) := k.2.2.1
  have k4 : okN (farith .add .f64 (farith .mul .f64 (wd u.a) (wd v.b)) (farith .mul .f64 (wd u.b) (wd v.a))) := k.2.2.2
  refine ret_of (callR_of (hX _ rfl) Try.func38 rfl (by kernel_rfl) (Nat.le_of_ble_eq_true rfl) ?_)
  (repeat' first | simp -dsimp (disch := first | omega | assumption | (refine OkS.sto ?_ (by omega); first | assumption | (refine OkS.sto ?_ (by omega); first | assumption | (refine OkS.sto ?_ (by omega); first | assumption | (refine OkS.sto ?_ (by omega); first | assumption | (refine OkS.sto ?_ (by omega); first | assumption | (refine OkS.sto ?_ (by omega); first | assumption)))))) | exact Pfx.refl _ | (apply Pfx.snoc; repeat (first | exact Pfx.refl _ | assumption | apply Pfx.snoc)) | with_unfolding_all exact of_eq_true (eq_true rfl) | (simp only [List.length_append, List.length_cons, List.length_nil]; omega)) only [↓wpre0, ↓wpre1, ↓reduceIte, Int.reduceToNat, Nat.reduceAdd, Nat.reduceMul, Nat.reduceEqDiff, wpost0, wpost1, wpost2, wpost3, wpost4, ite_self, ite_true, ite_false, if_true, if_false, xcv39_35, blt_cpx, fr38, wrap_int, wrap_u8, iteP_yes, iteP_no, parts_r hX k.1, parts_r hX k.2.1, times_r hX, cv_n k3, cv_n k4] | refine iteP_two (fun hc hd => ?_) (fun hc hd => ?_) | refine iteP_intro (fun hc => ?_) (fun hc => ?_))
  rfl
theorem Add_r (hX : XN X) (u v : CB) (h : Heap) : Ret Try.prog ro X 74 [toV u, toV v] h (toV (addB u v)) := by
  refine ret_of (callR_of (hX _ rfl) Try.func74 rfl (by kernel_rfl) (Nat.le_of_ble_eq_true rfl) ?_)
  (repeat' first | simp -dsimp (disch := first | omega | assumption | (refine OkS.sto ?_ (by omega); first | assumption | (refine OkS.sto ?_ (by omega); first | assumption | (refine OkS.sto ?_ (by omega); first | assumption | (refine OkS.sto ?_ (by omega); first | assumption | (refine OkS.sto ?_ (by omega); first | assumption | (refine OkS.sto ?_ (by omega); first | assumption)))))) | exact Pfx.refl _ | (apply Pfx.snoc; repeat (first | exact Pfx.refl _ | assumption | apply Pfx.snoc)) | with_unfolding_all exact of_eq_true (eq_true rfl) | (simp only [List.length_append, List.length_cons, List.length_nil]; omega)) only [↓wpre0, ↓wpre1, ↓reduceIte, Int.reduceToNat, Nat.reduceAdd, Nat.reduceMul, Nat.reduceEqDiff, wpost0, wpost1, wpost2, wpost3, wpost4, ite_self, ite_true, ite_false, if_true, if_false, blt_real, bin_fadd, blt_imag, blt_cpx, fr74, wrap_int, wrap_u8, iteP_yes, iteP_no] | refine iteP_two (fun hc hd => ?_) (fun hc hd => ?_) | refine iteP_intro (fun hc => ?_) (fun hc => ?_))
  rfl
theorem Conj_r (hX : XN X) (u : CB) (h : Heap) : Ret Try.prog ro X 40 [toV u] h (toV (cjB u)) := by
  refine ret_of (callR_of (hX _ rfl) Try.func40 rfl (by kernel_rfl) (Nat.le_of_ble_eq_true rfl) ?_)
  (repeat' first | simp -dsimp (disch := first | omega | assumption | (refine OkS.sto ?_ (by omega); first | assumption | (refine OkS.sto ?_ (by omega); first | assumption | (refine OkS.sto ?_ (by omega); first | assumption | (refine OkS.sto ?_ (by omega); first | assumption | (refine OkS.sto ?_ (by omega); first | assumption | (refine OkS.sto ?_ (by omega); first | assumption)))))) | exact Pfx.refl _ | (apply Pfx.snoc; repeat (first | exact Pfx.refl _ | assumption | apply Pfx.snoc)) | with_unfolding_all exact of_eq_true (eq_true rfl) | (simp only [List.length_append, List.length_cons, List.length_nil]; omega)) only [↓wpre0, ↓wpre1, ↓reduceIte, Int.reduceToNat, Nat.reduceAdd, Nat.reduceMul, Nat.reduceEqDiff, wpost0, wpost1, wpost2, wpost3, wpost4, ite_self, ite_true, ite_false, if_true, if_false, blt_real, blt_imag, un_fneg, blt_cpx, fr40, wrap_int, wrap_u8, iteP_yes, iteP_no] | refine iteP_two (fun hc hd => ?_) (fun hc hd => ?_) | refine iteP_intro (fun hc => ?_) (fun hc => ?_))
  rfl
/-! ### What they are worth -/
/-- Both parts are whole numbers in units of a power of two. -/
def cN (t : Nat) (z : ZC) (u : CB) : Prop := Fl.fin .f32 u.a (z.re * 2 ^ t) ∧ Fl.fin .f32 u.b (z.im * 2 ^ t)
theorem cN.okC {t : Nat} {z : ZC} {u : CB} (h : cN t z u) : okC u := by
  obtain ⟨r, h1, _⟩ := widen_fin h.1
  obtain ⟨s, h2, _⟩ := widen_fin h.2
  exact ⟨(okW_of h1).1, (okW_of h2).1⟩
theorem wd_fin {b : Nat} {v : Int} (h : Fl.fin .f32 b v) : Fl.fin .f64 (wd b) (v * 2 ^ 925) := by
  obtain ⟨r, h1, h2⟩ := widen_fin h
  rw [(okW_of h1).2]; exact h2
theorem lp64 : lp .f64 = -1074 := by decide
theorem mul_w {a b t1 t2 t : Nat} {n m : Int} (ha : Fl.fin .f32 a (n * 2 ^ t1)) (hb : Fl.fin .f32 b (m * 2 ^ t2)) (ht : t + 149 = t1 + t2) (hn : (n * m).natAbs < 2 ^ 24) (hT : t ≤ 200) : Fl.fin .f64 (farith .mul .f64 (wd a) (wd b)) (n * m * 2 ^ (t + 925)) := by
  have h1 := wd_fin ha
  have h2 := wd_fin hb
  rw [Int.mul_assoc, ← Int.pow_add] at h1 h2
  refine mul_fx h1 h2 (t := t + 925) (by rw [lp64]; omega) (Nat.lt_trans hn (by decide)) ?_
  refine Nat.lt_of_lt_of_le (Nat.mul_lt_mul_of_pos_right hn (Nat.two_pow_pos _)) ?_
  rw [← Nat.pow_add]
  exact Nat.pow_le_pow_right (by decide) (by simp only [top]; omega)
theorem small_pow {n : Int} {t : Nat} (hn : n.natAbs < 2 ^ 24) (hT : t ≤ 200) : n.natAbs * 2 ^ t < 2 ^ top .f32 := by
  refine Nat.lt_of_lt_of_le (Nat.mul_lt_mul_of_pos_right hn (Nat.two_pow_pos _)) ?_
  rw [← Nat.pow_add]
  exact Nat.pow_le_pow_right (by decide) (by simp only [top]; omega)
theorem small_pow64 {n : Int} {t : Nat} (hn : n.natAbs < 2 ^ 24) (hT : t ≤ 200) : n.natAbs * 2 ^ (t + 925) < 2 ^ top .f64 := by
  refine Nat.lt_of_lt_of_le (Nat.mul_lt_mul_of_pos_right hn (Nat.two_pow_pos _)) ?_
  rw [← Nat.pow_add]
  exact Nat.pow_le_pow_right (by decide) (by simp only [top]; omega)
theorem mulB_ok {t1 t2 t k m : Nat} {z w : ZC} {u v : CB} (hz : cN t1 z u) (hw : cN t2 w v) (ht : t + 149 = t1 + t2) (hT : t ≤ 200) (bz : z.le k) (bw : w.le m) (hk : 2 * (k * m) < 2 ^ 24) : okM u v ∧ cN t (z.mul w) (mulB u v) := by
  have h1 := ZC.abs_mul_le bz.1 bw.1
  have h2 := ZC.abs_mul_le bz.2 bw.2
  have h3 := ZC.abs_mul_le bz.1 bw.2
  have h4 := ZC.abs_mul_le bz.2 bw.1
  have b := ZC.le_mul bz bw
  have f1 := mul_w hz.1 hw.1 ht (by omega) hT
  have f2 := mul_w hz.2 hw.2 ht (by omega) hT
  have f3 := mul_w hz.1 hw.2 ht (by omega) hT
  have f4 := mul_w hz.2 hw.1 ht (by omega) hT
  have br : (z.re * w.re - z.im * w.im).natAbs < 2 ^ 24 := Nat.lt_of_le_of_lt b.1 hk
  have bi : (z.re * w.im + z.im * w.re).natAbs < 2 ^ 24 := Nat.lt_of_le_of_lt b.2 hk
  have g1 := sub_fx f1 f2 (Nat.lt_trans br (by decide)) (small_pow64 br hT)
  have g2 := add_fx f3 f4 (Nat.lt_trans bi (by decide)) (small_pow64 bi hT)
  obtain ⟨r1, n1, n2⟩ := narrow_fin g1 br (small_pow br hT)
  obtain ⟨r2, n3, n4⟩ := narrow_fin g2 bi (small_pow bi hT)
  have o1 : okN (mre u v) ∧ nr (mre u v) = r1 := okN_of n1
  have o2 : okN (mim u v) ∧ nr (mim u v) = r2 := okN_of n3
  refine ⟨⟨hz.okC, hw.okC, o1.1, o2.1⟩, ?_, ?_⟩
  · show Fl.fin .f32 (nr (mre u v)) _
    rw [o1.2]; exact n2
  · show Fl.fin .f32 (nr (mim u v)) _
    rw [o2.2]; exact n4
theorem addB_ok {t k m : Nat} {z w : ZC} {u v : CB} (hz : cN t z u) (hw : cN t w v) (hT : t ≤ 200) (bz : z.le k) (bw : w.le m) (hk : k + m < 2 ^ 24) : cN t (z.add w) (addB u v) := by
  have b := ZC.le_add bz bw
  exact ⟨add_fx (k := .f32) hz.1 hw.1 (Nat.lt_of_le_of_lt b.1 hk) (small_pow (Nat.lt_of_le_of_lt b.1 hk) hT), add_fx (k := .f32) hz.2 hw.2 (Nat.lt_of_le_of_lt b.2 hk) (small_pow (Nat.lt_of_le_of_lt b.2 hk) hT)⟩
theorem cjB_ok {t : Nat} {z : ZC} {u : CB} (h : cN t z u) : cN t z.conj (cjB u) := by
  refine ⟨h.1, ?_⟩
  have := neg_fin h.2
  rw [← Int.neg_mul] at this
  exact this
def zeroB : CB := ⟨0, 0⟩
theorem zero_fin : Fl.fin .f32 0 0 := ⟨false, 0, 0, by decide +kernel, by decide⟩
theorem zeroB_ok (t : Nat) : cN t ZC.zero zeroB := by
  refine ⟨?_, ?_⟩ <;> (show Fl.fin .f32 0 (0 * 2 ^ t); rw [Int.zero_mul]; exact zero_fin)
/-- A sum of products of so many. -/
def dotB (f g : Nat → CB) : Nat → CB
  | 0 => zeroB
  | n + 1 => addB (dotB f g n) (mulB (f n) (g n))
theorem dotB_ok {t1 t2 t k m : Nat} {f g : Nat → CB} {z w : Nat → ZC} {n : Nat} (hf : ∀ i, i < n → cN t1 (z i) (f i)) (hg : ∀ i, i < n → cN t2 (w i) (g i)) (ht : t + 149 = t1 + t2) (hT : t ≤ 200) (bz : ∀ i, i < n → (z i).le k) (bw : ∀ i, i < n → (w i).le m) (hk : n * (2 * (k * m)) < 2 ^ 24) :
    cN t (ZC.sum n fun i => (z i).mul (w i)) (dotB f g n) := by
  induction n with
  | zero => exact zeroB_ok t
  | succ n ih =>
    rw [Nat.succ_mul] at hk
    have i1 := ih (fun i hi => hf i (by omega)) (fun i hi => hg i (by omega)) (fun i hi => bz i (by omega)) (fun i hi => bw i (by omega)) (by omega)
    have m1 := mulB_ok (hf n (by omega)) (hg n (by omega)) ht hT (bz n (by omega)) (bw n (by omega)) (by omega)
    exact addB_ok i1 m1.2 hT (ZC.le_sum fun i hi => ZC.le_mul (bz i (by omega)) (bw i (by omega))) (ZC.le_mul (bz n (by omega)) (bw n (by omega))) (by omega)
theorem dotB_okM {t1 t2 t k m : Nat} {u v : CB} {z w : ZC} (hf : cN t1 z u) (hg : cN t2 w v) (ht : t + 149 = t1 + t2) (hT : t ≤ 200) (bz : z.le k) (bw : w.le m) (hk : 2 * (k * m) < 2 ^ 24) : okM u v := (mulB_ok hf hg ht hT bz bw hk).1
end Go.Proofs.Ytkhipobafchilaa.Sim
