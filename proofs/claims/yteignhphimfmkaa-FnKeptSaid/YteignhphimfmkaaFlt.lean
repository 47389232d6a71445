/- Floats and complex numbers, in the form in which simp runs them. Lemmas only; no condition. -/
import Derived.Test.YteignhphimfmkaaSimN
set_option linter.unusedSimpArgs false
set_option linter.unusedVariables false
namespace Go.Proofs.Yteignhphimfmkaa.Sim
open Go Go.RowKit

variable {P : Program} {ro : Nat} {B : Base} {X : Ext}
section fl
variable (t : TypeId) (k : FloatKind) (a b c d : Nat)
theorem bin_fadd : abin P .add t (.float k a) (.float k b) = some (.float k (farith .add k a b)) := by simp [abin, isArith]
theorem bin_fsub : abin P .sub t (.float k a) (.float k b) = some (.float k (farith .sub k a b)) := by simp [abin, isArith]
theorem bin_fmul : abin P .mul t (.float k a) (.float k b) = some (.float k (farith .mul k a b)) := by simp [abin, isArith]
theorem bin_fquo : abin P .quo t (.float k a) (.float k b) = some (.float k (farith .quo k a b)) := by simp [abin, isArith]
theorem bin_feql : abin P .eql t (.float k a) (.float k b) = some (.bool (fcmp .eql k a b)) := by simp [abin, isArith, isCmp]
theorem bin_fneq : abin P .neq t (.float k a) (.float k b) = some (.bool (!fcmp .eql k a b)) := by simp [abin, isArith, isCmp, fcmp, bne]
theorem bin_flss : abin P .lss t (.float k a) (.float k b) = some (.bool (fcmp .lss k a b)) := by simp [abin, isArith, isCmp]
theorem bin_fleq : abin P .leq t (.float k a) (.float k b) = some (.bool (fcmp .leq k a b)) := by simp [abin, isArith, isCmp]
theorem bin_fgtr : abin P .gtr t (.float k a) (.float k b) = some (.bool (fcmp .lss k b a)) := by
  have : fcmp .gtr k a b = fcmp .lss k b a := by
    simp only [fcmp, Ieee.Format.order]
    generalize k.format.read a = x
    generalize k.format.read b = y
    cases x <;> cases y <;> simp [Ieee.Datum.order]
    · rename_i s m i t n j
      rw [Int.min_comm j i]
      generalize Ieee.signed s m (i - min i j).toNat = p
      generalize Ieee.signed t n (j - min i j).toNat = q
      rw [Bool.eq_iff_iff]
      simp [Int.compare_eq_gt, Int.compare_eq_lt]
    · rename_i s m i t
      cases t <;> simp
    · rename_i s t m i
      cases s <;> simp
    · rename_i s t
      cases s <;> cases t <;> decide
  simp [abin, isArith, isCmp, this]
theorem bin_fgeq : abin P .geq t (.float k a) (.float k b) = some (.bool (fcmp .leq k b a)) := by
  have : fcmp .geq k a b = fcmp .leq k b a := by
    simp only [fcmp, Ieee.Format.order]
    generalize k.format.read a = x
    generalize k.format.read b = y
    cases x <;> cases y <;> simp [Ieee.Datum.order]
    · rename_i s m i t n j
      rw [Int.min_comm j i]
      generalize Ieee.signed s m (i - min i j).toNat = p
      generalize Ieee.signed t n (j - min i j).toNat = q
      rw [Bool.eq_iff_iff]
      simp only [Int.compare_eq_gt, Int.compare_eq_lt, Int.compare_eq_eq, Bool.or_eq_true, beq_iff_eq, Option.some.injEq]
      omega
    · rename_i s m i t
      cases t <;> simp
    · rename_i s t m i
      cases s <;> simp
    · rename_i s t
      cases s <;> cases t <;> decide
  simp [abin, isArith, isCmp, this]
theorem bin_cadd : abin P .add t (.complex k a b) (.complex k c d) = some (.complex k (farith .add k a c) (farith .add k b d)) := by simp [abin]
theorem bin_csub : abin P .sub t (.complex k a b) (.complex k c d) = some (.complex k (farith .sub k a c) (farith .sub k b d)) := by simp [abin]
theorem bin_ceql : abin P .eql t (.complex k a b) (.complex k c d) = some (.bool (fcmp .eql k a c && fcmp .eql k b d)) := by simp [abin]
theorem bin_cneq : abin P .neq t (.complex k a b) (.complex k c d) = some (.bool !(fcmp .eql k a c && fcmp .eql k b d)) := by simp [abin]
theorem un_fneg : aun P .neg (.float k a) = some (.float k (cf k (Op.negFloat k a))) := rfl
theorem un_cneg : aun P .neg (.complex k a b) = some (.complex k (cf k (Op.negFloat k a)) (cf k (Op.negFloat k b))) := rfl
end fl
theorem conv_if {h : Heap} {s d : TypeId} {u : TypeDesc} {k : FloatKind} {k' : IntKind} {n : Int} (h1 : P.underlying s = some u) (h2 : P.underlying d = some (.float k)) : aconv P h s d (.int k' n) = some (.float k (cf k (k.nearest n))) := by simp only [aconv, h1, h2]
theorem conv_fi {h : Heap} {s d : TypeId} {u : TypeDesc} {k : IntKind} {q : FloatKind} {b : Nat} (h1 : P.underlying s = some u) (h2 : P.underlying d = some (.int k)) : aconv P h s d (.float q b) = (floatToIntVal q b k).map fun n => .int k n := by simp only [aconv, h1, h2]
theorem conv_ff {h : Heap} {s d : TypeId} {u : TypeDesc} {k q : FloatKind} {b : Nat} (h1 : P.underlying s = some u) (h2 : P.underlying d = some (.float k)) : aconv P h s d (.float q b) = (fconv q b k).map fun r => .float k r := by simp only [aconv, h1, h2]
theorem conv_cc {h : Heap} {s d : TypeId} {u : TypeDesc} {k q : FloatKind} {a b : Nat} (h1 : P.underlying s = some u) (h2 : P.underlying d = some (.complex k)) : aconv P h s d (.complex q a b) = (fconv q a k).bind fun u => (fconv q b k).map fun v => .complex k u v := by simp only [aconv, h1, h2]
theorem blt_real {ts : List TypeId} {h : Heap} {k : FloatKind} {a b : Nat} : ablt P ro .real ts [.complex k a b] h = some (.float k a, h) := by cases ts <;> rfl
theorem blt_imag {ts : List TypeId} {h : Heap} {k : FloatKind} {a b : Nat} : ablt P ro .imag ts [.complex k a b] h = some (.float k b, h) := by cases ts <;> rfl
theorem blt_cpx {ts : List TypeId} {h : Heap} {k : FloatKind} {a b : Nat} : ablt P ro .complex ts [.float k a, .float k b] h = some (.complex k a b, h) := by
  cases ts <;> simp only [ablt, if_true]
theorem order_self (k : FloatKind) (b : Nat) : fcmp .eql k b b = !(k.decode b).isNaN := by
  simp only [fcmp, Ieee.Format.order, FloatKind.decode]
  generalize k.format.read b = x
  cases x <;> simp [Ieee.Datum.order, Ieee.Datum.isNaN]
end Go.Proofs.Yteignhphimfmkaa.Sim
