/- Sums of whole complex numbers, in plain Lean. Lemmas only; no condition. -/
import Derived.Test.YtbmpcjbppoppoaaVs
set_option linter.unusedSimpArgs false
set_option linter.unusedVariables false
namespace Go.Proofs.Ytbmpcjbppoppoaa.Sim
/-- A complex number of whole parts. -/
structure ZC where
  re : Int
  im : Int
deriving DecidableEq
namespace ZC
theorem ext' {a b : ZC} (h1 : a.re = b.re) (h2 : a.im = b.im) : a = b := by cases a; cases b; simp_all
def zero : ZC := ⟨0, 0⟩
def one : ZC := ⟨1, 0⟩
def add (a b : ZC) : ZC := ⟨a.re + b.re, a.im + b.im⟩
def mul (a b : ZC) : ZC := ⟨a.re * b.re - a.im * b.im, a.re * b.im + a.im * b.re⟩
def conj (a : ZC) : ZC := ⟨a.re, -a.im⟩
/-- At most so great, both parts. -/
def le (k : Nat) (a : ZC) : Prop := a.re.natAbs ≤ k ∧ a.im.natAbs ≤ k
/-- A sum of so many. -/
def sum : Nat → (Nat → ZC) → ZC
  | 0, _ => zero
  | n + 1, f => (sum n f).add (f n)
theorem sum_congr : ∀ {n : Nat} {f g : Nat → ZC}, (∀ i, i < n → f i = g i) → sum n f = sum n g
  | 0, _, _, _ => rfl
  | n + 1, f, g, h => by
    simp only [sum]
    rw [sum_congr (n := n) (f := f) (g := g) fun i hi => h i (by omega), h n (by omega)]
theorem sum_conj : ∀ (n : Nat) (f : Nat → ZC), (sum n f).conj = sum n fun i => (f i).conj
  | 0, _ => rfl
  | n + 1, f => by
    simp only [sum]
    rw [← sum_conj n f]
    refine ext' ?_ ?_ <;> simp only [add, conj] <;> omega
theorem mul_conj (a b : ZC) : (a.mul b).conj = b.conj.mul a.conj := by
  refine ext' ?_ ?_ <;> simp only [mul, conj] <;> grind
theorem mul_comm (a b : ZC) : a.mul b = b.mul a := by
  refine ext' ?_ ?_ <;> simp only [mul] <;> grind
theorem mul_assoc (a b c : ZC) : (a.mul b).mul c = a.mul (b.mul c) := by
  refine ext' ?_ ?_ <;> simp only [mul] <;> grind
theorem conj_conj (a : ZC) : a.conj.conj = a := by
  refine ext' ?_ ?_ <;> simp only [conj] <;> omega
theorem mul_sum (c : ZC) : ∀ (n : Nat) (f : Nat → ZC), c.mul (sum n f) = sum n fun i => c.mul (f i)
  | 0, _ => by refine ext' ?_ ?_ <;> simp [mul, sum, zero]
  | n + 1, f => by
    simp only [sum]
    rw [← mul_sum c n f]
    refine ext' ?_ ?_ <;> simp only [add, mul] <;> grind
theorem sum_zero : ∀ (n : Nat), (sum n fun _ => zero) = zero
  | 0 => rfl
  | n + 1 => by simp only [sum, sum_zero n]; rfl
theorem sum_add : ∀ (n : Nat) (f g : Nat → ZC), (sum n fun i => (f i).add (g i)) = (sum n f).add (sum n g)
  | 0, _, _ => rfl
  | n + 1, f, g => by
    simp only [sum, sum_add n f g]
    refine ext' ?_ ?_ <;> simp only [add] <;> omega
theorem sum_swap : ∀ (n m : Nat) (f : Nat → Nat → ZC), (sum n fun i => sum m fun j => f i j) = sum m fun j => sum n fun i => f i j
  | 0, m, f => by simp only [sum]; rw [sum_zero]
  | n + 1, m, f => by simp only [sum]; rw [sum_swap n m f, sum_add]
/-- A sum of which one number is left. -/
theorem sum_one : ∀ {n j : Nat} {f : Nat → ZC}, j < n → (∀ i, i < n → i ≠ j → f i = zero) → sum n f = f j
  | 0, _, _, h, _ => by omega
  | n + 1, j, f, h, hz => by
    simp only [sum]
    by_cases e : j = n
    · subst e
      rw [sum_congr (g := fun _ => zero) fun i hi => hz i (by omega) (by omega), sum_zero]
      refine ext' ?_ ?_ <;> simp only [add, zero] <;> omega
    · rw [sum_one (j := j) (by omega) fun i hi hne => hz i (by omega) hne, hz n (by omega) (fun q => e q.symm)]
      refine ext' ?_ ?_ <;> simp only [add, zero] <;> omega
theorem sum_re_nonneg : ∀ (n : Nat) (f : Nat → ZC), (∀ i, i < n → 0 ≤ (f i).re ∧ (f i).im = 0) → 0 ≤ (sum n f).re ∧ (sum n f).im = 0
  | 0, _, _ => ⟨Int.le_refl _, rfl⟩
  | n + 1, f, h => by
    have h1 := sum_re_nonneg n f fun i hi => h i (by omega)
    have h2 := h n (by omega)
    simp only [sum, add]
    omega
theorem mul_self (a : ZC) : 0 ≤ (a.mul a.conj).re ∧ (a.mul a.conj).im = 0 := by
  simp only [mul, conj]
  constructor
  · have h1 : 0 ≤ a.re * a.re := by rcases Int.le_total 0 a.re with h | h; exact Int.mul_nonneg h h; exact Int.mul_nonneg_of_nonpos_of_nonpos h h
    have h2 : 0 ≤ a.im * a.im := by rcases Int.le_total 0 a.im with h | h; exact Int.mul_nonneg h h; exact Int.mul_nonneg_of_nonpos_of_nonpos h h
    rw [Int.mul_neg]
    omega
  · rw [Int.mul_neg, Int.mul_comm a.im a.re]
    omega
theorem le.mono {k m : Nat} {a : ZC} (h : le k a) (hk : k ≤ m) : le m a := ⟨Nat.le_trans h.1 hk, Nat.le_trans h.2 hk⟩
theorem le_add {k m : Nat} {a b : ZC} (h : le k a) (g : le m b) : le (k + m) (a.add b) := by
  obtain ⟨h1, h2⟩ := h
  obtain ⟨g1, g2⟩ := g
  simp only [le, add]
  omega
theorem le_conj {k : Nat} {a : ZC} (h : le k a) : le k a.conj := by
  obtain ⟨h1, h2⟩ := h
  simp only [le, conj]
  omega
theorem abs_mul_le {a b : Int} {k m : Nat} (h : a.natAbs ≤ k) (g : b.natAbs ≤ m) : (a * b).natAbs ≤ k * m := by
  rw [Int.natAbs_mul]
  exact Nat.mul_le_mul h g
theorem le_mul {k m : Nat} {a b : ZC} (h : le k a) (g : le m b) : le (2 * (k * m)) (a.mul b) := by
  have h1 := abs_mul_le h.1 g.1
  have h2 := abs_mul_le h.2 g.2
  have h3 := abs_mul_le h.1 g.2
  have h4 := abs_mul_le h.2 g.1
  simp only [le, mul]
  omega
theorem le_sum {k : Nat} : ∀ {n : Nat} {f : Nat → ZC}, (∀ i, i < n → le k (f i)) → le (n * k) (sum n f)
  | 0, _, _ => by simp [le, sum, zero]
  | n + 1, f, h => by
    simp only [sum]
    rw [Nat.succ_mul]
    exact le_add (le_sum fun i hi => h i (by omega)) (h n (by omega))
/-- The form of a matrix times its adjoint. -/
theorem form_sum (p q : Nat) (a : Nat → Nat → ZC) (x : Nat → ZC) :
    (sum p fun i => (x i).conj.mul (sum p fun j => (sum q fun k => (a i k).mul (a j k).conj).mul (x j))) = sum q fun k => (sum p fun i => (x i).conj.mul (a i k)).mul (sum p fun i => (x i).conj.mul (a i k)).conj := by
  have h1 : ∀ i, (x i).conj.mul (sum p fun j => (sum q fun k => (a i k).mul (a j k).conj).mul (x j)) = sum q fun k => ((x i).conj.mul (a i k)).mul (sum p fun j => (x j).conj.mul (a j k)).conj := by
    intro i
    have h2 : (sum p fun j => (sum q fun k => (a i k).mul (a j k).conj).mul (x j)) = sum q fun k => (a i k).mul (sum p fun j => (x j).conj.mul (a j k)).conj := by
      have h3 : ∀ j, (sum q fun k => (a i k).mul (a j k).conj).mul (x j) = sum q fun k => (a i k).mul ((x j).conj.mul (a j k)).conj := by
        intro j
        rw [mul_comm, mul_sum]
        refine sum_congr fun k _ => ?_
        rw [mul_conj, conj_conj, ← mul_assoc, mul_comm (x j), mul_assoc, mul_comm (x j)]
      rw [sum_congr fun j _ => h3 j, sum_swap]
      refine sum_congr fun k _ => ?_
      rw [sum_conj, mul_sum]
    rw [h2, mul_sum]
    refine sum_congr fun k _ => ?_
    rw [mul_assoc]
  rw [sum_congr fun i _ => h1 i, sum_swap]
  refine sum_congr fun k _ => ?_
  generalize (sum p fun j => (x j).conj.mul (a j k)).conj = c
  rw [mul_comm, mul_sum]
  refine sum_congr fun i _ => ?_
  rw [mul_comm]
theorem form_ok (p q : Nat) (a : Nat → Nat → ZC) (x : Nat → ZC) : 0 ≤ (sum p fun i => (x i).conj.mul (sum p fun j => (sum q fun k => (a i k).mul (a j k).conj).mul (x j))).re ∧ (sum p fun i => (x i).conj.mul (sum p fun j => (sum q fun k => (a i k).mul (a j k).conj).mul (x j))).im = 0 := by
  rw [form_sum]
  exact sum_re_nonneg q _ fun k _ => mul_self _
end ZC
end Go.Proofs.Ytbmpcjbppoppoaa.Sim
