/- How great quotients of floats are. Lemmas only; no condition. -/
import Derived.Test.YtkhipobafchilaaFlb
set_option linter.unusedSimpArgs false
set_option linter.unusedVariables false
namespace Go.Proofs.Ytkhipobafchilaa.Sim.Fl
open Ieee Go
/-- A finite float that is at least a power of two. -/
def big (k : FloatKind) (w : Nat) (b : Nat) : Prop := ∃ (s : Bool) (n e : Nat), k.decode b = .number s n (lp k + e) ∧ 2 ^ w ≤ n * 2 ^ e
theorem quo_mag {m n e1 e2 u w more K : Nat} (h1 : m * 2 ^ e1 ≤ 2 ^ u) (h2 : 2 ^ w ≤ n * 2 ^ e2) (hK : (K : Int) = u + e2 + more - e1 - w) : m * 2 ^ more ≤ n * 2 ^ K := by
  have e : K + e1 + w = u + e2 + more := by omega
  have : m * 2 ^ more * (2 ^ e1 * 2 ^ w) ≤ n * 2 ^ K * (2 ^ e1 * 2 ^ w) := by
    calc m * 2 ^ more * (2 ^ e1 * 2 ^ w) = (m * 2 ^ e1) * 2 ^ w * 2 ^ more := by simp only [Nat.mul_assoc, Nat.mul_comm, Nat.mul_left_comm]
      _ ≤ 2 ^ u * (n * 2 ^ e2) * 2 ^ more := Nat.mul_le_mul_right _ (Nat.mul_le_mul h1 h2)
      _ = n * (2 ^ u * 2 ^ e2 * 2 ^ more) := by simp only [Nat.mul_assoc, Nat.mul_comm, Nat.mul_left_comm]
      _ = n * 2 ^ (K + e1 + w) := by rw [e, Nat.pow_add, Nat.pow_add]
      _ = n * 2 ^ K * (2 ^ e1 * 2 ^ w) := by rw [Nat.pow_add, Nat.pow_add]; simp only [Nat.mul_assoc]
  exact Nat.le_of_mul_le_mul_right this (Nat.mul_pos (Nat.two_pow_pos _) (Nat.two_pow_pos _))
theorem quo_bd {k : FloatKind} {a b u w t : Nat} (ha : bd k u a) (hb : big k w b) (ht : (t : Int) = u - w - lp k) (hu : t ≤ mx k) : bd k t (farith .quo k a b) := by
  obtain ⟨s1, m, e1, d1, v1⟩ := ha.parts
  obtain ⟨s2, n, e2, d2, v2⟩ := hb
  have hn : n ≠ 0 := by
    intro q
    rw [q, Nat.zero_mul] at v2
    exact absurd v2 (Nat.not_le_of_lt (Nat.two_pow_pos _))
  obtain ⟨more, hmore⟩ : ∃ more, more = k.format.fractionBits + 2 + n.log2 - m.log2 := ⟨_, rfl⟩
  have hq : floatBits .quo k a b = some (k.encode (.number (s1 ^^ s2) (2 * (m <<< more / n) + (m <<< more % n != 0).toNat) (lp k + e1 - (lp k + e2) - more - 1))) := by
    show (((k.decode a).quotient (k.format.fractionBits + 2) (k.decode b)).map k.format.write) = _
    rw [d1, d2]
    simp only [Datum.quotient, if_neg hn, ← hmore]
    rfl
  refine bd_arith hq ?_
  by_cases hm : m = 0
  · subst hm
    have z : 2 * (0 <<< more / n) + (0 <<< more % n != 0).toNat = 0 := by simp
    rw [z]
    obtain ⟨pl, hpl⟩ : ∃ pl : Int, pl = lp k + e1 - (lp k + e2) - more - 1 := ⟨_, rfl⟩
    rw [← hpl]
    exact write_bd k _ (a := (pl - lp k - t).toNat) (s := (lp k + t - pl).toNat) (u := t) (by rw [Nat.zero_mul]; exact Nat.zero_le _) (by omega) hu
  · have hlow : n ≤ m * 2 ^ more := by
      have g1 : 2 ^ m.log2 ≤ m := Nat.log2_self_le hm
      have g2 : n < 2 ^ (n.log2 + 1) := Nat.lt_log2_self
      calc n ≤ 2 ^ (n.log2 + 1) := Nat.le_of_lt g2
        _ ≤ 2 ^ (m.log2 + more) := Nat.pow_le_pow_right (by decide) (by omega)
        _ = 2 ^ m.log2 * 2 ^ more := Nat.pow_add ..
        _ ≤ m * 2 ^ more := Nat.mul_le_mul_right _ g1
    have hk : 0 ≤ (u : Int) + e2 + more - e1 - w := by
      by_cases q : (u : Int) + e2 + more - e1 - w < 0
      · have g : u + e2 + more + 1 ≤ e1 + w := by omega
        have c1 : 2 * (m * 2 ^ more) * 2 ^ (u + e2 + more) ≤ n * 2 ^ (u + e2 + more) := by
          calc 2 * (m * 2 ^ more) * 2 ^ (u + e2 + more) = m * 2 ^ more * 2 ^ (u + e2 + more + 1) := by rw [Nat.pow_succ]; simp only [Nat.mul_assoc, Nat.mul_comm, Nat.mul_left_comm]
            _ ≤ m * 2 ^ more * 2 ^ (e1 + w) := Nat.mul_le_mul_left _ (Nat.pow_le_pow_right (by decide) g)
            _ = (m * 2 ^ e1) * 2 ^ w * 2 ^ more := by rw [Nat.pow_add]; simp only [Nat.mul_assoc, Nat.mul_comm, Nat.mul_left_comm]
            _ ≤ 2 ^ u * (n * 2 ^ e2) * 2 ^ more := Nat.mul_le_mul_right _ (Nat.mul_le_mul v1 v2)
            _ = n * 2 ^ (u + e2 + more) := by rw [Nat.pow_add, Nat.pow_add]; simp only [Nat.mul_assoc, Nat.mul_comm, Nat.mul_left_comm]
        have c2 := Nat.le_of_mul_le_mul_right c1 (Nat.two_pow_pos _)
        have c3 : 0 < m * 2 ^ more := Nat.mul_pos (Nat.pos_of_ne_zero hm) (Nat.two_pow_pos _)
        omega
      · omega
    obtain ⟨K, hK⟩ := Int.eq_ofNat_of_zero_le hk
    have hmag := quo_mag (K := K) (more := more) v1 v2 hK.symm
    refine write_bd k _ (a := 0) (s := K + 1) (u := t) ?_ (by omega) hu
    rw [Nat.pow_zero, Nat.mul_one, Nat.shiftLeft_eq]
    have hn0 : 0 < n := Nat.pos_of_ne_zero hn
    generalize m * 2 ^ more = D at hmag hlow ⊢
    have e : n * (D / n) + D % n = D := Nat.div_add_mod D n
    have hp : 2 ^ (K + 1) = 2 * 2 ^ K := by rw [Nat.pow_succ, Nat.mul_comm]
    rw [hp]
    by_cases hr : D % n = 0
    · rw [hr]
      have : D / n ≤ 2 ^ K := by
        rw [hr, Nat.add_zero] at e
        exact Nat.le_of_mul_le_mul_left (by rw [e]; exact hmag) hn0
      simp only [bne_self_eq_false, Bool.toNat_false]
      omega
    · have : D / n < 2 ^ K := by
        refine Nat.lt_of_mul_lt_mul_left (a := n) ?_
        have := Nat.pos_of_ne_zero hr
        omega
      have hb : (D % n != 0).toNat = 1 := by simp [hr]
      rw [hb]
      omega
end Go.Proofs.Ytkhipobafchilaa.Sim.Fl
