/- The lattice of a sky, walked by steps and walked by ones. Lemmas only; no condition. -/
import Derived.Test.YtelogajobjflfaaSimN
set_option linter.unusedVariables false
namespace Go.Proofs.Ytelogajobjflfaa.Sim
section sky
variable {A : Type} (P : Int → Int → A → A) (step m : Nat)
def rowI (v : Int) (acc : A) : Nat → A
  | 0 => acc
  | k + 1 => P ((k * step : Nat) - (m * step : Nat)) v (rowI v acc k)
def colI (acc : A) : Nat → A
  | 0 => acc
  | k + 1 => rowI P step m ((k * step : Nat) - (m * step : Nat)) (colI acc k) (2 * m + 1)
def hit (t : Nat) : Bool := decide (((t : Int) - 64).tmod step = 0)
def rowL (v : Int) (acc : A) : Nat → A
  | 0 => acc
  | t + 1 => if hit step t = true then P ((t : Int) - 64) v (rowL v acc t) else rowL v acc t
def colL (acc : A) : Nat → A
  | 0 => acc
  | t + 1 => if hit step t = true then rowL P step ((t : Int) - 64) (colL acc t) 129 else colL acc t
theorem hit_iff {step m r t : Nat} (h64 : m * step + r = 64) (hr : r < step) : hit step t = decide ((t + step - r) % step = 0) := by
  unfold hit
  refine decide_eq_decide.2 ?_
  rw [← Int.dvd_iff_tmod_eq_zero, ← Nat.dvd_iff_mod_eq_zero]
  have e : (t : Int) - 64 = ((t + step - r : Nat) : Int) + (step : Int) * (-((m : Int) + 1)) := by
    have : (step : Int) * (-((m : Int) + 1)) = -(((m * step : Nat) : Int)) - step := by
      rw [Int.mul_neg, Int.mul_add, Int.mul_one, Int.natCast_mul, Int.mul_comm (step : Int)]
      omega
    rw [this]
    omega
  rw [e, Int.dvd_add_left ⟨_, rfl⟩, Int.natCast_dvd_natCast]
theorem run_eq {B : Type} (F : Int → B → B) {step m r : Nat} (h64 : m * step + r = 64) (hr : r < step) (I L : Nat → B) (h0 : L 0 = I 0) (hI : ∀ k, I (k + 1) = F ((k * step : Nat) - (m * step : Nat)) (I k)) (hL : ∀ t, L (t + 1) = if hit step t = true then F ((t : Int) - 64) (L t) else L t) : ∀ t, L t = I ((t + step - 1 - r) / step)
  | 0 => by
    rw [h0, Nat.div_eq_of_lt (by omega)]
  | t + 1 => by
    have ih := run_eq F h64 hr I L h0 hI hL t
    rw [hL, hit_iff h64 hr]
    obtain ⟨q, hq⟩ : ∃ q, q = t + step - r := ⟨_, rfl⟩
    have e1 : t + step - 1 - r = q - 1 := by omega
    have e2 : t + 1 + step - 1 - r = q := by omega
    rw [← hq, e2]
    rw [e1] at ih
    have hd := Nat.div_add_mod q step
    obtain ⟨k, hk⟩ : ∃ k, k = q / step := ⟨_, rfl⟩
    rw [← hk] at hd ⊢
    by_cases h : q % step = 0
    · rw [decide_eq_true h, if_pos rfl]
      rw [h, Nat.add_zero] at hd
      obtain ⟨j, rfl⟩ : ∃ j, k = j + 1 := by
        cases k with
        | zero => rw [Nat.mul_zero] at hd; omega
        | succ j => exact ⟨j, rfl⟩
      have hd' : j * step + step = q := by rw [← hd, Nat.mul_add, Nat.mul_one, Nat.mul_comm]
      have e3 : (q - 1) / step = j := Nat.div_eq_of_lt_le (by omega) (by rw [Nat.succ_mul]; omega)
      rw [e3] at ih
      rw [ih, hI]
      congr 1
      omega
    · rw [decide_eq_false h, if_neg (by decide), ih]
      have hm := Nat.mod_lt q (show 0 < step by omega)
      have hd' : k * step + q % step = q := by rw [Nat.mul_comm]; exact hd
      rw [Nat.div_eq_of_lt_le (k := k) (by omega) (by rw [Nat.succ_mul]; omega)]
theorem last_eq {step m r : Nat} (h64 : m * step + r = 64) (hr : r < step) : (129 + step - 1 - r) / step = 2 * m + 1 := by
  refine Nat.div_eq_of_lt_le ?_ ?_
  · rw [Nat.add_mul, Nat.mul_assoc, Nat.one_mul]; omega
  · rw [Nat.succ_mul, Nat.add_mul, Nat.mul_assoc, Nat.one_mul]; omega
theorem rowL_eq {step m r : Nat} (h64 : m * step + r = 64) (hr : r < step) (v : Int) (acc : A) : rowL P step v acc 129 = rowI P step m v acc (2 * m + 1) := by
  have := run_eq (fun u => P u v) h64 hr (rowI P step m v acc) (rowL P step v acc) rfl (fun _ => rfl) (fun _ => rfl) 129
  rw [this, last_eq h64 hr]
theorem colL_eq {step m r : Nat} (h64 : m * step + r = 64) (hr : r < step) (acc : A) : colL P step acc 129 = colI P step m acc (2 * m + 1) := by
  have := run_eq (fun v a => rowI P step m v a (2 * m + 1)) h64 hr (colI P step m acc) (colL P step acc) rfl (fun _ => rfl) (fun t => by
    show (if hit step t = true then rowL P step ((t : Int) - 64) (colL P step acc t) 129 else colL P step acc t) = _
    rw [rowL_eq P h64 hr]) 129
  rw [this, last_eq h64 hr]
end sky
end Go.Proofs.Ytelogajobjflfaa.Sim
