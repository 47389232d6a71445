
/- What the functions of beams come to. Lemmas only; no condition. -/
import Derived.Test.YteignhphimfmkaaSimS
import Derived.Test.YteignhphimfmkaaSimU
import Derived.Test.YteignhphimfmkaaFda
set_option linter.unusedSimpArgs false
set_option linter.unusedVariables false
namespace Go.Proofs.Yteignhphimfmkaa.Sim
open Go Go.RowKit
variable {ro : Nat} {X : Ext}
theorem sq_range {u : Int} (h0 : -64 ≤ u) (h1 : u ≤ 64) : 0 ≤ u * u ∧ u * u ≤ 4096 := by
  have h : u * u = ((u.natAbs * u.natAbs : Nat) : Int) := by rw [← Int.natAbs_mul_self]
  have h2 : u.natAbs * u.natAbs ≤ 64 * 64 := Nat.mul_le_mul (by omega) (by omega)
  omega
def dirOk (u v : Int) : Bool := decide (-64 ≤ u) && decide (u ≤ 64) && (decide (-64 ≤ v) && decide (v ≤ 64)) && decide (u * u + v * v ≤ 4096)
theorem within_r (hX : XN X) (n lo hi : Int) (h : Heap) : Ret Try.prog ro X 27 [.int .i64 n, .int .i64 lo, .int .i64 hi] h (.bool (decide (lo ≤ n) && decide (n ≤ hi))) := fun _ _ => cf_eq (within_c (hX _ rfl) n lo hi h)
def bOk (l : List Int) (i : Nat) : Bool := dirOk (nth l (i * 4)) (nth l (i * 4 + 1)) && (decide (1 ≤ nth l (i * 4 + 2)) && decide (nth l (i * 4 + 2) ≤ 10000)) && (decide (nth l (i * 4 + 2) ≤ nth l (i * 4 + 3)) && decide (nth l (i * 4 + 3) ≤ 10000))
def isB (n : Nat) (l : List Int) : Bool := (List.range n).all (bOk l) && (decide (1 ≤ (n : Int)) && decide ((n : Int) ≤ 7))
theorem isB_false {n i : Nat} {l : List Int} (hi : i < n) (h : bOk l i = false) : isB n l = false := by
  have : (List.range n).all (bOk l) = false := by
    rw [Bool.eq_false_iff]
    intro q
    rw [List.all_eq_true] at q
    rw [q i (List.mem_range.2 hi)] at h
    cases h
  simp [isB, this]
theorem isB_all {n : Nat} {l : List Int} (h : ∀ i, i < n → bOk l i = true) : isB n l = (decide (1 ≤ (n : Int)) && decide ((n : Int) ≤ 7)) := by
  have : (List.range n).all (bOk l) = true := by
    rw [List.all_eq_true]
    intro i hi
    exact h i (List.mem_range.1 hi)
  simp [isB, this]
end Go.Proofs.Yteignhphimfmkaa.Sim
