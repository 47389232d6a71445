/- Roots: how great they are at most. Lemmas only; no condition. -/
import Derived.Test.YtkhipobafchilaaSqt
import Derived.Test.YtkhipobafchilaaNui
import Derived.Test.YtkhipobafchilaaSkf
import Derived.Test.YtkhipobafchilaaMth
set_option linter.unusedSimpArgs false
set_option linter.unusedVariables false
namespace Go.Proofs.Ytkhipobafchilaa.Sim.Fl
open Ieee Go
theorem le_of_sq {a b : Nat} (h : a * a ≤ b * b) : a ≤ b := Nat.mul_self_le_mul_self_iff.1 h
/-- The root of a number whose root is at most 'Y' is at most 'Y' and a little. -/
theorem sqrt_up {x m e t Y : Nat} {sn : Bool} (hd : FloatKind.f64.decode x = .number sn m (lp .f64 + e)) (hsn : m ≠ 0 → sn = false) (hY : m * 2 ^ (e + 1074) ≤ Y * Y) (ht : Y ≤ 2 ^ t) (h60 : 600 ≤ t) (hu : t ≤ 2000) : ∃ r v, FloatKind.f64.format.sqrt x = some r ∧ fin .f64 r v ∧ v.natAbs ≤ Y + 2 ^ (t - 50) := by
  have hlp : lp .f64 = -1074 := by decide
  have hfb : FloatKind.f64.format.fractionBits = 52 := rfl
  by_cases hm0 : m = 0
  · obtain ⟨v, g1, g2, _⟩ := write_err .f64 sn (mag := 0) (a := e) (s := 0) (u := 0) (D := 0) (place := lp .f64 + e) (by rw [Nat.zero_mul]; exact Nat.zero_le _) (by omega) (by decide) (by omega)
    refine ⟨FloatKind.f64.encode (.number sn 0 (lp .f64 + e)), v, ?_, g1, Nat.le_trans g2 (Nat.le_trans (Nat.pow_le_pow_right (by decide) (show 0 ≤ t - 50 by omega)) (Nat.le_add_left _ _))⟩
    show ((FloatKind.f64.decode x).root (FloatKind.f64.format.fractionBits + 2)).map FloatKind.f64.format.write = _
    rw [hd]
    simp only [Datum.root, if_pos hm0]
    rw [hm0]
    rfl
  · obtain rfl := hsn hm0
    obtain ⟨mo, hmo⟩ : ∃ mo : Nat, mo = 2 * (52 + 2) - m.log2 := ⟨_, rfl⟩
    obtain ⟨mo2, hmo2⟩ : ∃ mo2 : Nat, mo2 = mo + ((lp .f64 + (e : Int) - mo) % 2).toNat := ⟨_, rfl⟩
    obtain ⟨n, hn⟩ : ∃ n : Nat, n = m <<< mo2 := ⟨_, rfl⟩
    obtain ⟨wh, hwh⟩ : ∃ wh : Nat, wh = Datum.rootFrom n (n.log2 / 2 + 1) 0 := ⟨_, rfl⟩
    obtain ⟨g, hg⟩ : ∃ g : Int, lp .f64 + (e : Int) - mo2 = g + g := ⟨(lp .f64 + (e : Int) - mo2) / 2, by omega⟩
    have hq : FloatKind.f64.format.sqrt x = some (FloatKind.f64.encode (.number false (2 * wh + (wh * wh != n).toNat) (g - 1))) := by
      show ((FloatKind.f64.decode x).root (FloatKind.f64.format.fractionBits + 2)).map FloatKind.f64.format.write = _
      rw [hd]
      simp only [Datum.root, if_neg hm0, Bool.false_eq_true, if_false, hfb, ← hmo, ← hmo2, ← hn, ← hwh, Option.map_some]
      congr 2
      rw [hg]
      have : (g + g) / 2 = g := by omega
      rw [this]
    have sq := root_sq (n := n) (n.log2 / 2 + 1) 0 (Nat.zero_le _)
    rw [← hwh] at sq
    obtain ⟨G, hG⟩ : ∃ G : Nat, (G : Int) = g + 1074 := ⟨(g + 1074).toNat, by omega⟩
    have hnG : n * 2 ^ (G + G) = m * 2 ^ (e + 1074) := by
      rw [hn, Nat.shiftLeft_eq, Nat.mul_assoc, ← Nat.pow_add]
      congr 2
      omega
    have h1 : wh * 2 ^ G ≤ Y := by
      refine le_of_sq ?_
      have e1 : wh * 2 ^ G * (wh * 2 ^ G) = wh * wh * 2 ^ (G + G) := by rw [Nat.pow_add, Nat.mul_mul_mul_comm]
      rw [e1]
      exact Nat.le_trans (Nat.mul_le_mul_right _ sq) (by rw [hnG]; exact hY)
    have hlog : 2 ^ 108 ≤ n := by
      have g1 : 2 ^ m.log2 ≤ m := Nat.log2_self_le hm0
      rw [hn, Nat.shiftLeft_eq]
      refine Nat.le_trans ?_ (Nat.mul_le_mul_right _ g1)
      rw [← Nat.pow_add]
      exact Nat.pow_le_pow_right (by decide) (by omega)
    have hGt : G + 54 ≤ t := by
      refine Nat.le_of_not_lt fun c => ?_
      have a1 : 2 ^ 108 * 2 ^ (G + G) ≤ Y * Y := Nat.le_trans (Nat.mul_le_mul_right _ hlog) (by rw [hnG]; exact hY)
      have a2 : Y * Y ≤ 2 ^ (t + t) := by rw [Nat.pow_add]; exact Nat.mul_le_mul ht ht
      have a3 : (2 : Nat) ^ (t + t + 1) ≤ 2 ^ 108 * 2 ^ (G + G) := by
        rw [← Nat.pow_add]
        exact Nat.pow_le_pow_right (by decide) (by omega)
      have a4 : (2 : Nat) ^ (t + t) < 2 ^ (t + t + 1) := Nat.pow_lt_pow_right (by decide) (by omega)
      generalize (2 : Nat) ^ (t + t + 1) = y1 at *
      generalize (2 : Nat) ^ (t + t) = y2 at *
      generalize 2 ^ 108 * 2 ^ (G + G) = y3 at *
      omega
    have hst : (wh * wh != n).toNat ≤ 1 := by cases (wh * wh != n) <;> decide
    obtain ⟨mag, hmag⟩ : ∃ mag, mag = 2 * wh + (wh * wh != n).toNat := ⟨_, rfl⟩
    have hG1 : 1 ≤ G := by omega
    have eG : 2 ^ G = 2 * 2 ^ (G - 1) := by rw [← Nat.pow_succ', show (G - 1).succ = G by omega]
    have m1 : mag * 2 ^ (G - 1) ≤ wh * 2 ^ G + 2 ^ (G - 1) := by
      rw [eG, hmag, Nat.add_mul]
      have e1 : 2 * wh * 2 ^ (G - 1) = wh * (2 * 2 ^ (G - 1)) := by rw [← Nat.mul_assoc, Nat.mul_comm 2 wh]
      rw [e1]
      exact Nat.add_le_add_left (by rw [show 2 ^ (G - 1) = 1 * 2 ^ (G - 1) by omega]; exact Nat.le_trans (Nat.mul_le_mul_right _ hst) (by omega)) _
    have m2 : 2 ^ (G - 1) ≤ 2 ^ (t - 55) := Nat.pow_le_pow_right (by decide) (by omega)
    have m3 : 2 ^ (t - 55) ≤ 2 ^ t := Nat.pow_le_pow_right (by decide) (by omega)
    have m4 : mag * 2 ^ (G - 1) ≤ 2 ^ (t + 1) := by rw [Nat.pow_succ]; omega
    have m5 : mag ≤ 2 ^ (t + 2 - G) := by
      have e1 : 2 ^ (t + 1) = 2 ^ (t + 2 - G) * 2 ^ (G - 1) := by rw [← Nat.pow_add]; congr 1; omega
      rw [e1] at m4
      exact Nat.le_of_mul_le_mul_right m4 (Nat.two_pow_pos _)
    obtain ⟨v, g1, _, g3⟩ := write_err .f64 false (mag := mag) (a := 0) (s := t + 2 - G) (u := t + 1) (D := 0) (place := g - 1) (by rw [Nat.pow_zero, Nat.mul_one]; exact m5) (by omega) (by show t + 1 ≤ 2096; omega) (by omega)
    rw [← hmag] at hq
    refine ⟨_, v, hq, g1, ?_⟩
    have ep : (g - 1 + ((0 : Nat) : Int) - lp .f64).toNat = G - 1 := by omega
    rw [ep, hfb, Int.pow_zero, Int.mul_one] at g3
    have e5 : 0 + (t + 1 - 52) = t - 51 := by omega
    rw [e5] at g3
    have e6 : 2 ^ (t - 50) = 2 * 2 ^ (t - 51) := by rw [← Nat.pow_succ', show (t - 51).succ = t - 50 by omega]
    have e7 : 2 ^ (t - 55) ≤ 2 ^ (t - 51) := Nat.pow_le_pow_right (by decide) (by omega)
    have es : sg false (mag * 2 ^ (G - 1)) = ((mag * 2 ^ (G - 1) : Nat) : Int) := rfl
    rw [es] at g3
    rw [e6]
    generalize mag * 2 ^ (G - 1) = q1 at *
    generalize wh * 2 ^ G = q2 at *
    generalize 2 ^ (G - 1) = q3 at *
    generalize 2 ^ (t - 55) = q4 at *
    generalize 2 ^ (t - 51) = q5 at *
    omega
/-- A quotient of numbers that are not negative, and how near it is: the product with the divisor against the dividend. -/
theorem quo_err {k : FloatKind} {a b m n e1 e2 u L : Nat} (hL : (L : Int) = -lp k) (ha : k.decode a = .number false m (lp k + e1)) (hb : k.decode b = .number false n (lp k + e2)) (hm0 : m ≠ 0) (hn : n ≠ 0) (h : m * 2 ^ (e1 + L) ≤ 2 ^ u * (n * 2 ^ e2)) (hu : u + 1 ≤ mx k) (hf : k.format.fractionBits ≤ u) :
    ∃ v : Int, fin k (farith .quo k a b) v ∧ (v * ((n * 2 ^ e2 : Nat) : Int) - ((m * 2 ^ (e1 + L) : Nat) : Int)).natAbs ≤ 2 * (n * 2 ^ e2 * 2 ^ (u - k.format.fractionBits)) := by
  obtain ⟨more, hmore⟩ : ∃ more, more = k.format.fractionBits + 2 + n.log2 - m.log2 := ⟨_, rfl⟩
  have hq : floatBits .quo k a b = some (k.encode (.number (false ^^ false) (2 * (m <<< more / n) + (m <<< more % n != 0).toNat) (lp k + e1 - (lp k + e2) - more - 1))) := by
    show (((k.decode a).quotient (k.format.fractionBits + 2) (k.decode b)).map k.format.write) = _
    rw [ha, hb]
    simp only [Datum.quotient, if_neg hn, ← hmore]
    rfl
  obtain ⟨mag, hmag⟩ : ∃ mag, mag = 2 * (m <<< more / n) + (m <<< more % n != 0).toNat := ⟨_, rfl⟩
  obtain ⟨pl, hpl⟩ : ∃ pl : Int, pl = lp k + e1 - (lp k + e2) - more - 1 := ⟨_, rfl⟩
  rw [← hmag, ← hpl] at hq
  have hn0 : 0 < n := Nat.pos_of_ne_zero hn
  have hm1 : mag * n ≤ 2 * (m * 2 ^ more) + n ∧ 2 * (m * 2 ^ more) ≤ mag * n + n := by
    rw [Nat.shiftLeft_eq] at hmag
    generalize m * 2 ^ more = D at *
    have e := Nat.div_add_mod D n
    have hr := Nat.mod_lt D hn0
    have em : mag * n = 2 * (n * (D / n)) + (D % n != 0).toNat * n := by
      rw [hmag, Nat.add_mul, Nat.mul_assoc, Nat.mul_comm (D / n)]
    rw [em]
    generalize n * (D / n) = q at *
    by_cases hz : D % n = 0
    · rw [hz]; simp; omega
    · have : (D % n != 0) = true := by simpa using hz
      rw [this]
      simp only [Bool.toNat_true, Nat.one_mul]
      omega
  have hlow : n * 2 ^ (k.format.fractionBits + 1) ≤ m * 2 ^ more := by
    have g1 : 2 ^ m.log2 ≤ m := Nat.log2_self_le hm0
    have g2 : n < 2 ^ (n.log2 + 1) := Nat.lt_log2_self
    calc n * 2 ^ (k.format.fractionBits + 1) ≤ 2 ^ (n.log2 + 1) * 2 ^ (k.format.fractionBits + 1) := Nat.mul_le_mul_right _ (Nat.le_of_lt g2)
      _ = 2 ^ (n.log2 + 1 + (k.format.fractionBits + 1)) := (Nat.pow_add ..).symm
      _ ≤ 2 ^ (m.log2 + more) := Nat.pow_le_pow_right (by decide) (by omega)
      _ = 2 ^ m.log2 * 2 ^ more := Nat.pow_add ..
      _ ≤ m * 2 ^ more := Nat.mul_le_mul_right _ g1
  have hexp : e1 + L + (k.format.fractionBits + 1) ≤ u + e2 + more := by
    refine Nat.le_of_not_lt fun c => ?_
    have a1 : n * 2 ^ (k.format.fractionBits + 1) * 2 ^ (e1 + L) ≤ n * 2 ^ (u + e2 + more) := by
      calc n * 2 ^ (k.format.fractionBits + 1) * 2 ^ (e1 + L) ≤ m * 2 ^ more * 2 ^ (e1 + L) := Nat.mul_le_mul_right _ hlow
        _ = m * 2 ^ (e1 + L) * 2 ^ more := by simp only [Nat.mul_assoc, Nat.mul_comm, Nat.mul_left_comm]
        _ ≤ 2 ^ u * (n * 2 ^ e2) * 2 ^ more := Nat.mul_le_mul_right _ h
        _ = n * 2 ^ (u + e2 + more) := by rw [Nat.pow_add, Nat.pow_add]; simp only [Nat.mul_assoc, Nat.mul_comm, Nat.mul_left_comm]
    rw [Nat.mul_assoc, ← Nat.pow_add] at a1
    have a2 := Nat.le_of_mul_le_mul_left a1 hn0
    have a3 := Nat.pow_lt_pow_right (a := 2) (by decide) c
    rw [Nat.add_comm (e1 + L)] at a3
    omega
  obtain ⟨s, hs⟩ : ∃ s : Nat, s + (e1 + L) = u + 1 + e2 + more + 1 := ⟨u + 1 + e2 + more + 1 - (e1 + L), by omega⟩
  have hms : mag ≤ 2 ^ s := by
    have b1 : mag * n * 2 ^ (e1 + L) ≤ 2 ^ s * n * 2 ^ (e1 + L) := by
      have c1 := Nat.mul_le_mul_right (2 ^ (e1 + L)) hm1.1
      have c2 : (2 * (m * 2 ^ more) + n) * 2 ^ (e1 + L) = 2 * 2 ^ more * (m * 2 ^ (e1 + L)) + n * 2 ^ (e1 + L) := by rw [Nat.add_mul]; congr 1; simp only [Nat.mul_assoc, Nat.mul_comm, Nat.mul_left_comm]
      have c3 : 2 * 2 ^ more * (m * 2 ^ (e1 + L)) ≤ 2 * 2 ^ more * (2 ^ u * (n * 2 ^ e2)) := Nat.mul_le_mul_left _ h
      have c4 : 2 * 2 ^ more * (2 ^ u * (n * 2 ^ e2)) = n * 2 ^ (u + e2 + more + 1) := by rw [Nat.pow_succ, Nat.pow_add, Nat.pow_add]; simp only [Nat.mul_assoc, Nat.mul_comm, Nat.mul_left_comm]
      have c5 : n * 2 ^ (e1 + L) ≤ n * 2 ^ (u + e2 + more + 1) := Nat.mul_le_mul_left _ (Nat.pow_le_pow_right (by decide) (by omega))
      have c6 : 2 ^ s * n * 2 ^ (e1 + L) = 2 * (n * 2 ^ (u + e2 + more + 1)) := by
        rw [Nat.mul_comm (2 ^ s), Nat.mul_assoc, ← Nat.pow_add, show s + (e1 + L) = (u + e2 + more + 1) + 1 by omega, Nat.pow_succ]
        simp only [Nat.mul_assoc, Nat.mul_comm, Nat.mul_left_comm]
      omega
    exact Nat.le_of_mul_le_mul_right (Nat.le_of_mul_le_mul_right b1 (Nat.two_pow_pos _)) hn0
  obtain ⟨v, g1, _, g3⟩ := write_err k (false ^^ false) (mag := mag) (a := 0) (s := s) (u := u + 1) (D := e2 + more + 1) (place := pl) (by rw [Nat.pow_zero, Nat.mul_one]; exact hms) (by omega) hu (by omega)
  refine ⟨v, fin_arith hq g1, ?_⟩
  have ep : (pl + ((e2 + more + 1 : Nat) : Int) - lp k).toNat = e1 + L := by omega
  rw [ep] at g3
  have es : sg (false ^^ false) (mag * 2 ^ (e1 + L)) = ((mag * 2 ^ (e1 + L) : Nat) : Int) := rfl
  rw [es] at g3
  have hqz : 2 ^ (e1 + L) * 2 ≤ 2 ^ (u - k.format.fractionBits) * (2 ^ e2 * 2 ^ more) := by
    rw [← Nat.pow_succ, ← Nat.pow_add, ← Nat.pow_add]
    exact Nat.pow_le_pow_right (by decide) (by omega)
  have eP : 2 ^ (e2 + more + 1) = 2 ^ e2 * 2 ^ more * 2 := by rw [Nat.pow_succ, Nat.pow_add]
  have ePi : (2 : Int) ^ (e2 + more + 1) = ((2 ^ e2 * 2 ^ more * 2 : Nat) : Int) := by rw [← eP, Int.natCast_pow]; rfl
  have eR : 2 ^ (e2 + more + 1 + (u + 1 - k.format.fractionBits)) = 2 ^ e2 * 2 ^ more * 2 * (2 ^ (u - k.format.fractionBits) * 2) := by
    rw [Nat.pow_add, eP, show u + 1 - k.format.fractionBits = (u - k.format.fractionBits) + 1 by omega, Nat.pow_succ]
  rw [ePi, eR] at g3
  have hM : 0 < 4 * 2 ^ more := by have := Nat.two_pow_pos more; omega
  obtain ⟨hm1a, hm1b⟩ := hm1
  clear hq hmag hlow hexp hms h ep es eP ePi eR hs
  generalize (2 : Nat) ^ (e1 + L) = q at *
  generalize (2 : Nat) ^ (u - k.format.fractionBits) = Z at *
  generalize (2 : Nat) ^ e2 = E at *
  generalize (2 : Nat) ^ more = M at *
  have id : (v * ((n * E : Nat) : Int) - ((m * q : Nat) : Int)) * ((4 * M : Nat) : Int) = (n : Int) * (2 * (v * ((E * M * 2 : Nat) : Int) - ((mag * q : Nat) : Int))) + 2 * ((((mag * n : Nat) : Int)) - ((2 * (m * M) : Nat) : Int)) * (q : Int) := by
    simp only [Int.natCast_mul]
    grind
  have b1 : ((n : Int) * (2 * (v * ((E * M * 2 : Nat) : Int) - ((mag * q : Nat) : Int)))).natAbs ≤ n * (E * M * 2 * (Z * 2)) := by
    rw [Int.natAbs_mul, Int.natAbs_natCast]
    exact Nat.mul_le_mul_left _ g3
  have b2 : (2 * ((((mag * n : Nat) : Int)) - ((2 * (m * M) : Nat) : Int)) * (q : Int)).natAbs ≤ n * (Z * (E * M)) := by
    rw [Int.natAbs_mul, Int.natAbs_natCast]
    have c1 : (2 * ((((mag * n : Nat) : Int)) - ((2 * (m * M) : Nat) : Int))).natAbs ≤ n * 2 := by omega
    refine Nat.le_trans (Nat.mul_le_mul_right _ c1) ?_
    rw [Nat.mul_assoc, Nat.mul_comm 2 q]
    exact Nat.mul_le_mul_left _ hqz
  have tot : ((v * ((n * E : Nat) : Int) - ((m * q : Nat) : Int)) * ((4 * M : Nat) : Int)).natAbs ≤ 2 * (n * E * Z) * (4 * M) := by
    rw [id]
    refine Nat.le_trans (Int.natAbs_add_le _ _) ?_
    have e1 : n * (E * M * 2 * (Z * 2)) = 4 * (n * E * Z * M) := by grind
    have e2 : n * (Z * (E * M)) = n * E * Z * M := by grind
    have e3 : 2 * (n * E * Z) * (4 * M) = 8 * (n * E * Z * M) := by grind
    rw [e1] at b1
    rw [e2] at b2
    rw [e3]
    omega
  rw [Int.natAbs_mul, Int.natAbs_natCast] at tot
  exact Nat.le_of_mul_le_mul_right tot hM
end Go.Proofs.Ytkhipobafchilaa.Sim.Fl

/- Sums of squares. Lemmas only; no condition. -/
set_option linter.unusedSimpArgs false
set_option linter.unusedVariables false
set_option maxRecDepth 8000
namespace Go.Proofs.Ytkhipobafchilaa.Sim
open Go Go.RowKit Fl
/-- The square of a sum is at most so many times the sum of the squares. -/
theorem cauchy (f : Nat → Int) : ∀ n : Nat, suZ f n * suZ f n ≤ (n : Int) * suZ (fun k => f k * f k) n
  | 0 => by simp [suZ]
  | n + 1 => by
    have ih := cauchy f n
    rcases Nat.eq_zero_or_pos n with h0 | h0
    · subst h0
      simp [suZ]
    have e1 : suZ f (n + 1) = suZ f n + f n := rfl
    have e2 : suZ (fun k => f k * f k) (n + 1) = suZ (fun k => f k * f k) n + f n * f n := rfl
    have e3 : ((n + 1 : Nat) : Int) = (n : Int) + 1 := by omega
    rw [e1, e2, e3]
    generalize suZ f n = S at *
    generalize suZ (fun k => f k * f k) n = Q at *
    generalize f n = x
    have key : 2 * (S * x) ≤ Q + (n : Int) * (x * x) := by
      have nn : 0 ≤ (S - n * x) * (S - n * x) := by rw [← Int.natAbs_mul_self]; exact Int.natCast_nonneg _
      have id : (S - n * x) * (S - n * x) = S * S + (n : Int) * ((n : Int) * (x * x)) - (n : Int) * (2 * (S * x)) := by grind
      rw [id] at nn
      have : (n : Int) * (2 * (S * x)) ≤ (n : Int) * (Q + (n : Int) * (x * x)) := by
        rw [Int.mul_add]; omega
      exact Int.le_of_mul_le_mul_left this (by omega)
    have id2 : (S + x) * (S + x) = S * S + 2 * (S * x) + x * x := by grind
    have id3 : ((n : Int) + 1) * (Q + x * x) = (n : Int) * Q + Q + (n : Int) * (x * x) + x * x := by grind
    rw [id2, id3]
    omega
variable {ro lo hi n : Nat} {X : Ext} {h : Heap} {x y : Value}
/-- The sum of the powers. -/
def pwS (f : Nat → CB) : Nat → Nat
  | 0 => 0
  | n + 1 => farith .add .f64 (pwS f n) (pwF (f n))
theorem PowersOf_r {f : Nat → CB} (hX : XN X) (hR : RowB lo h x n f) (hn : n ≤ 64) (hok : ∀ i, i < n → okC (f i)) (hN : okN (pwS f n)) : Ret Try.prog ro X 33 [x] h (.tuple ⟨[.float .f32 (nr (pwS f n)), .bool true]⟩) := by
  have hn' : ¬ (64 : Int) < (n : Int) := by omega
  refine ret_of (callR_of (hX _ rfl) Try.func33 rfl (by kernel_rfl) (Nat.le_of_ble_eq_true rfl) ?_)
  (repeat' first | simp -dsimp (disch := first | omega | assumption | (refine OkS.sto ?_ (by omega); first | assumption | (refine OkS.sto ?_ (by omega); first | assumption | (refine OkS.sto ?_ (by omega); first | assumption | (refine OkS.sto ?_ (by omega); first | assumption | (refine OkS.sto ?_ (by omega); first | assumption | (refine OkS.sto ?_ (by omega); first | assumption)))))) | exact Pfx.refl _ | (apply Pfx.snoc; repeat (first | exact Pfx.refl _ | assumption | apply Pfx.snoc)) | with_unfolding_all exact of_eq_true (eq_true rfl) | (simp only [List.length_append, List.length_cons, List.length_nil]; omega)) only [↓wpre0, ↓wpre1, ↓reduceIte, Int.reduceToNat, Nat.reduceAdd, Nat.reduceMul, Nat.reduceEqDiff, wpost0, wpost1, wpost2, wpost3, wpost4, ite_self, ite_true, ite_false, if_true, if_false, xlen29, bin_gtr, bin_lss, xiad29, xld32, bin_fadd, bin_add, xcv39_35, fr33, wrap_int, wrap_u8, iteP_yes, iteP_no, hR.len, hn'] | refine iteP_two (fun hc hd => ?_) (fun hc hd => ?_) | refine iteP_intro (fun hc => ?_) (fun hc => ?_))
  refine loop_exit 0 (fun e h2 => h2 = h ∧ e 4 = .float .f64 (pwS f n)) ?_ ?_
  · refine loop_rounds (fun mm e h2 => ∃ i : Nat, mm = n - i ∧ i ≤ n ∧ h2 = h ∧ e 4 = .float .f64 (pwS f i) ∧ e 10 = x ∧ e 11 = .int .i64 n ∧ e 12 = .int .i64 i) _ ⟨0, rfl, ?_⟩ ?_
    · simp only [updO_at, updO_not, entry_at, List.getD_cons_zero, List.getD_cons_succ, ↓reduceIte, Nat.reduceEqDiff, true_and, and_true]
      (repeat' (first | assumption | rfl | omega | exact Nat.zero_le _ | refine And.intro ?_ ?_))
    · rintro mm e h2 ⟨i, hmm, hle, rfl, g4, g10, g11, g12⟩
      have hks : (i : Int) + 1 = ((i + 1 : Nat) : Int) := by omega
      by_cases hin : i < n
      · have hp := power_r (ro := ro) (X := X) hX (hok i hin) h2
        have eS : farith .add .f64 (pwS f i) (pwF (f i)) = pwS f (i + 1) := rfl
        (repeat' first | simp -dsimp (disch := first | omega | assumption | (refine OkS.sto ?_ (by omega); first | assumption | (refine OkS.sto ?_ (by omega); first | assumption | (refine OkS.sto ?_ (by omega); first | assumption | (refine OkS.sto ?_ (by omega); first | assumption | (refine OkS.sto ?_ (by omega); first | assumption | (refine OkS.sto ?_ (by omega); first | assumption)))))) | exact Pfx.refl _ | (apply Pfx.snoc; repeat (first | exact Pfx.refl _ | assumption | apply Pfx.snoc)) | with_unfolding_all exact of_eq_true (eq_true rfl) | (simp only [List.length_append, List.length_cons, List.length_nil]; omega)) only [↓wpre0, ↓wpre1, ↓reduceIte, Int.reduceToNat, Nat.reduceAdd, Nat.reduceMul, Nat.reduceEqDiff, wpost0, wpost1, wpost2, wpost3, wpost4, ite_self, ite_true, ite_false, if_true, if_false, xlen29, bin_gtr, bin_lss, xiad29, xld32, bin_fadd, bin_add, xcv39_35, fr33, wrap_int, wrap_u8, iteP_yes, iteP_no, g4, g10, g11, g12, hR.iad, hR.ld, hp, eS] | refine iteP_two (fun hc hd => ?_) (fun hc hd => ?_) | refine iteP_intro (fun hc => ?_) (fun hc => ?_))
        exact ⟨n - (i + 1), by omega, i + 1, rfl, by omega, rfl, by rw [hks]⟩
      · have ei : i = n := by omega
        subst ei
        (repeat' first | simp -dsimp (disch := first | omega | assumption | (refine OkS.sto ?_ (by omega); first | assumption | (refine OkS.sto ?_ (by omega); first | assumption | (refine OkS.sto ?_ (by omega); first | assumption | (refine OkS.sto ?_ (by omega); first | assumption | (refine OkS.sto ?_ (by omega); first | assumption | (refine OkS.sto ?_ (by omega); first | assumption)))))) | exact Pfx.refl _ | (apply Pfx.snoc; repeat (first | exact Pfx.refl _ | assumption | apply Pfx.snoc)) | with_unfolding_all exact of_eq_true (eq_true rfl) | (simp only [List.length_append, List.length_cons, List.length_nil]; omega)) only [↓wpre0, ↓wpre1, ↓reduceIte, Int.reduceToNat, Nat.reduceAdd, Nat.reduceMul, Nat.reduceEqDiff, wpost0, wpost1, wpost2, wpost3, wpost4, ite_self, ite_true, ite_false, if_true, if_false, xlen29, bin_gtr, bin_lss, xiad29, xld32, bin_fadd, bin_add, xcv39_35, fr33, wrap_int, wrap_u8, iteP_yes, iteP_no, g4, g10, g11, g12] | refine iteP_two (fun hc hd => ?_) (fun hc hd => ?_) | refine iteP_intro (fun hc => ?_) (fun hc => ?_))
  rintro e h2 ⟨rfl, g4⟩
  (repeat' first | simp -dsimp (disch := first | omega | assumption | (refine OkS.sto ?_ (by omega); first | assumption | (refine OkS.sto ?_ (by omega); first | assumption | (refine OkS.sto ?_ (by omega); first | assumption | (refine OkS.sto ?_ (by omega); first | assumption | (refine OkS.sto ?_ (by omega); first | assumption | (refine OkS.sto ?_ (by omega); first | assumption)))))) | exact Pfx.refl _ | (apply Pfx.snoc; repeat (first | exact Pfx.refl _ | assumption | apply Pfx.snoc)) | with_unfolding_all exact of_eq_true (eq_true rfl) | (simp only [List.length_append, List.length_cons, List.length_nil]; omega)) only [↓wpre0, ↓wpre1, ↓reduceIte, Int.reduceToNat, Nat.reduceAdd, Nat.reduceMul, Nat.reduceEqDiff, wpost0, wpost1, wpost2, wpost3, wpost4, ite_self, ite_true, ite_false, if_true, if_false, xlen29, bin_gtr, bin_lss, xiad29, xld32, bin_fadd, bin_add, xcv39_35, fr33, wrap_int, wrap_u8, iteP_yes, iteP_no, g4, cv_n hN] | refine iteP_two (fun hc hd => ?_) (fun hc hd => ?_) | refine iteP_intro (fun hc => ?_) (fun hc => ?_))
set_option maxHeartbeats 4000000 in
theorem Mirror_c {f : Nat → CB} (hX : XN X) (hR : RowB lo h x n f) (n1 : 1 ≤ n) (n16 : n ≤ 16) (hro : ro ≤ h.length) :
    CallR Try.prog ro X 19 [x] h (fun r h' => ∃ z, r = .tuple ⟨[z, .bool true]⟩ ∧ Pfx h h' ∧ RowB h.length h' z n (fun i => cjB (f (n - 1 - i)))) := by
  have hlen := hR.len (ro := ro)
  refine callR_of (hX _ rfl) Try.func19 rfl (by kernel_rfl) (Nat.le_of_ble_eq_true rfl) ?_
  (repeat' first | simp -dsimp (disch := first | omega | assumption | (refine OkS.sto ?_ (by omega); first | assumption | (refine OkS.sto ?_ (by omega); first | assumption | (refine OkS.sto ?_ (by omega); first | assumption | (refine OkS.sto ?_ (by omega); first | assumption | (refine OkS.sto ?_ (by omega); first | assumption | (refine OkS.sto ?_ (by omega); first | assumption)))))) | exact Pfx.refl _ | (apply Pfx.snoc; repeat (first | exact Pfx.refl _ | assumption | apply Pfx.snoc)) | with_unfolding_all exact of_eq_true (eq_true rfl) | (simp only [List.length_append, List.length_cons, List.length_nil]; omega)) only [↓wpre0, ↓wpre1, ↓reduceIte, Int.reduceToNat, Nat.reduceAdd, Nat.reduceMul, Nat.reduceEqDiff, wpost0, wpost1, wpost2, wpost3, wpost4, ite_self, ite_true, ite_false, if_true, if_false, un_not, xbls29_0, xbls29_1, xlen29, bin_sub, bin_geq, xiad29, xld32, fr19, wrap_int, wrap_u8, iteP_yes, iteP_no, areW_r hX hlen n1 n16, hlen] | refine iteP_two (fun hc hd => ?_) (fun hc hd => ?_) | refine iteP_intro (fun hc => ?_) (fun hc => ?_))
  refine loop_rounds (fun mm e h2 => ∃ (i : Nat) (z : Value), mm = n - i ∧ i ≤ n ∧ Pfx h h2 ∧ e 0 = x ∧ e 4 = z ∧ e 5 = .int .i64 ((n : Int) - 1 - i) ∧ VG h.length 32 1 h2 z i (rowV i (fun i => cjB (f (n - 1 - i))))) _ ⟨0, .slice (some ⟨h.length, 0, none⟩) 0 0, rfl, ?_⟩ ?_
  · simp only [updO_at, updO_not, entry_at, List.getD_cons_zero, List.getD_cons_succ, ↓reduceIte, Nat.reduceEqDiff, true_and, and_true]
    have q1 : Pfx h (h ++ [(⟨32, []⟩ : Blk)]) := (Pfx.refl h).snoc
    have q2 : VG h.length 32 1 (h ++ [(⟨32, []⟩ : Blk)]) (.slice (some ⟨h.length, 0, none⟩) 0 0) 0 (rowV 0 (fun i => cjB (f (n - 1 - i)))) := vg_new h (Nat.le_refl _)
    (repeat' (first | assumption | rfl | omega | exact q1 | exact q2 | exact Nat.zero_le _ | (congr 1; omega) | refine And.intro ?_ ?_))
  · rintro mm e h2 ⟨i, z, hmm, hle, hp, g0, g4, g5, hZ⟩
    have hlp := hp.len
    have hR2 := hR.pre hp
    by_cases hin : i < n
    · have g5 : e 5 = .int .i64 ((n - 1 - i : Nat) : Int) := by rw [g5]; congr 1; omega
      have hC := Conj_r (ro := ro) (X := X) hX (f (n - 1 - i)) h2
      obtain ⟨H, ap, vg, old, hlen⟩ := acc1 (P := Try.prog) (ro := ro) (T := 29) (h := h2) (v := toV (cjB (f (n - 1 - i)))) tel29 tsz32 tby32 tze32 (.inl hZ) (by omega) (by omega) rfl (by omega) (by omega)
      rw [← rowV_succ i fun i => cjB (f (n - 1 - i))] at vg
      have pH := old.1 h hp (Nat.le_refl _)
      have hld := hR2.ld (i := n - 1 - i) (by omega)
      (repeat' first | simp -dsimp (disch := first | omega | assumption | (refine OkS.sto ?_ (by omega); first | assumption | (refine OkS.sto ?_ (by omega); first | assumption | (refine OkS.sto ?_ (by omega); first | assumption | (refine OkS.sto ?_ (by omega); first | assumption | (refine OkS.sto ?_ (by omega); first | assumption | (refine OkS.sto ?_ (by omega); first | assumption)))))) | exact Pfx.refl _ | (apply Pfx.snoc; repeat (first | exact Pfx.refl _ | assumption | apply Pfx.snoc)) | with_unfolding_all exact of_eq_true (eq_true rfl) | (simp only [List.length_append, List.length_cons, List.length_nil]; omega)) only [↓wpre0, ↓wpre1, ↓reduceIte, Int.reduceToNat, Nat.reduceAdd, Nat.reduceMul, Nat.reduceEqDiff, wpost0, wpost1, wpost2, wpost3, wpost4, ite_self, ite_true, ite_false, if_true, if_false, un_not, xbls29_0, xbls29_1, xlen29, bin_sub, bin_geq, xiad29, xld32, fr19, wrap_int, wrap_u8, iteP_yes, iteP_no, g0, g4, g5, hR2.iad, hld, hC, ap] | refine iteP_two (fun hc hd => ?_) (fun hc hd => ?_) | refine iteP_intro (fun hc => ?_) (fun hc => ?_))
      exact ⟨n - (i + 1), by omega, i + 1, _, rfl, by omega, pH, rfl, by congr 1; omega, vg⟩
    · have ei : i = n := by omega
      subst ei
      have g5 : e 5 = .int .i64 (-1) := by rw [g5]; congr 1; omega
      have hnf : Sim.flat (.tuple ⟨[z, .bool true]⟩) = false := by obtain ⟨_, b, cap, rfl, _⟩ := hZ; rfl
      (repeat' first | simp -dsimp (disch := first | omega | assumption | (refine OkS.sto ?_ (by omega); first | assumption | (refine OkS.sto ?_ (by omega); first | assumption | (refine OkS.sto ?_ (by omega); first | assumption | (refine OkS.sto ?_ (by omega); first | assumption | (refine OkS.sto ?_ (by omega); first | assumption | (refine OkS.sto ?_ (by omega); first | assumption)))))) | exact Pfx.refl _ | (apply Pfx.snoc; repeat (first | exact Pfx.refl _ | assumption | apply Pfx.snoc)) | with_unfolding_all exact of_eq_true (eq_true rfl) | (simp only [List.length_append, List.length_cons, List.length_nil]; omega)) only [↓wpre0, ↓wpre1, ↓reduceIte, Int.reduceToNat, Nat.reduceAdd, Nat.reduceMul, Nat.reduceEqDiff, wpost0, wpost1, wpost2, wpost3, wpost4, ite_self, ite_true, ite_false, if_true, if_false, un_not, xbls29_0, xbls29_1, xlen29, bin_sub, bin_geq, xiad29, xld32, fr19, wrap_int, wrap_u8, iteP_yes, iteP_no, g0, g4, g5, endH_not hnf] | refine iteP_two (fun hc hd => ?_) (fun hc hd => ?_) | refine iteP_intro (fun hc => ?_) (fun hc => ?_))
      exact ⟨z, rfl, hp, hZ.vsl⟩
set_option maxHeartbeats 4000000 in
theorem ShiftW_c {f : Nat → CB} {lo' : Nat} {l : List Int} {u v : Int} (hX : XN X) (hA : XAbs X) (hI : IS lo hi 2 h x n l) (ht : tyP ro h x) (hg : goodP n l) (hd : dirB u v = true) (hF : RowB lo' h y n f) (hK : ∀ {h' : Heap}, Pfx h h' → PW ro h' x y n l f) (hok : ∀ i, i < n → okM (f i) (PH (stpN l u v i))) (hro : ro ≤ h.length) (hlo : hi ≤ h.length) :
    CallR Try.prog ro X 17 [x, y, .agg ⟨[.int .i64 u, .int .i64 v]⟩] h (fun r h' => ∃ z, r = .tuple ⟨[z, .bool true]⟩ ∧ Pfx h h' ∧ RowB h.length h' z n (fun i => mulB (f i) (PH (stpN l u v i)))) := by
  have n1 := hg.n1
  have n16 := hg.n16
  have hb : boxV h 27 (.agg ⟨[.int .i64 u, .int .i64 v]⟩) = some (.pointer (some ⟨h.length, 0, none⟩), h ++ [⟨27, [.int .i64 u, .int .i64 v]⟩]) := box_go rfl
  have p0 : Pfx h (h ++ [(⟨27, [.int .i64 u, .int .i64 v]⟩ : Blk)]) := (Pfx.refl h).snoc
  have hro0 : ro ≤ (h ++ [(⟨27, [.int .i64 u, .int .i64 v]⟩ : Blk)]).length := by simp; omega
  have hv := areFor_r (ro := ro) hX (hK p0) hro0
  have hdr := vDir_r (ro := ro) hX u v _ hro0
  rw [hd] at hdr
  have el : (h ++ [(⟨27, [.int .i64 u, .int .i64 v]⟩ : Blk)]).length = h.length + 1 := by simp
  have p1 : Pfx h (h ++ [(⟨27, [.int .i64 u, .int .i64 v]⟩ : Blk)] ++ [(⟨32, []⟩ : Blk)]) := p0.snoc
  have cD : cells (h ++ [(⟨27, [.int .i64 u, .int .i64 v]⟩ : Blk)] ++ [(⟨32, []⟩ : Blk)]) h.length 0 2 = some (.agg ⟨[.int .i64 u, .int .i64 v]⟩) := cellsb (o := 0) (n := 2) (t := 27) (cs := [.int .i64 u, .int .i64 v]) (by simp) (by simp)
  refine callR_of (hX _ rfl) Try.func17 rfl (by kernel_rfl) (Nat.le_of_ble_eq_true rfl) ?_
  (repeat' first | simp -dsimp (disch := first | omega | assumption | (refine OkS.sto ?_ (by omega); first | assumption | (refine OkS.sto ?_ (by omega); first | assumption | (refine OkS.sto ?_ (by omega); first | assumption | (refine OkS.sto ?_ (by omega); first | assumption | (refine OkS.sto ?_ (by omega); first | assumption | (refine OkS.sto ?_ (by omega); first | assumption)))))) | exact Pfx.refl _ | (apply Pfx.snoc; repeat (first | exact Pfx.refl _ | assumption | apply Pfx.snoc)) | with_unfolding_all exact of_eq_true (eq_true rfl) | (simp only [List.length_append, List.length_cons, List.length_nil]; omega)) only [↓wpre0, ↓wpre1, ↓reduceIte, Int.reduceToNat, Nat.reduceAdd, Nat.reduceMul, Nat.reduceEqDiff, wpost0, wpost1, wpost2, wpost3, wpost4, ite_self, ite_true, ite_false, if_true, if_false, un_not, xld27, xbls29_0, xbls29_1, xlen29, bin_lss, xiad29, xld32, bin_add, fr17, wrap_int, wrap_u8, iteP_yes, iteP_no, hb, hv, hdr, el, cD, (hF.pre p0).len, (hI.pre p0).len Try.underlying24] | refine iteP_two (fun hc hd => ?_) (fun hc hd => ?_) | refine iteP_intro (fun hc => ?_) (fun hc => ?_))
  refine cf_rel (steering_c hX hA (hI.pre p1) hg hd (by simp; omega) (by simp; omega)) (fun q => by cases q) ?_
  rintro z1 H1 ⟨q1, hZ1⟩
  have lq := q1.len
  have eQ : (h ++ [(⟨27, [.int .i64 u, .int .i64 v]⟩ : Blk)] ++ [(⟨32, []⟩ : Blk)]).length = h.length + 2 := by simp
  rw [eQ] at lq hZ1
  have hO : VG (h.length + 1) 32 1 H1 (.slice (some ⟨h.length + 1, 0, none⟩) 0 0) 0 (rowV 0 (fun i => mulB (f i) (PH (stpN l u v i)))) := by
    have := vg_new (lo := h.length + 1) (t := 32) (k := 1) (h ++ [(⟨27, [.int .i64 u, .int .i64 v]⟩ : Blk)]) (by simp)
    rw [el] at this
    exact this.pre q1
  have pG : Pfx (h ++ [(⟨27, [.int .i64 u, .int .i64 v]⟩ : Blk)]) H1 := (Pfx.refl _).snoc.trans q1
  have hR0 : VS (h.length + 2) H1.length 1 H1 z1 n (rowV n (fun i => PH (stpN l u v i))) := hZ1
  (repeat' first | simp -dsimp (disch := first | omega | assumption | (refine OkS.sto ?_ (by omega); first | assumption | (refine OkS.sto ?_ (by omega); first | assumption | (refine OkS.sto ?_ (by omega); first | assumption | (refine OkS.sto ?_ (by omega); first | assumption | (refine OkS.sto ?_ (by omega); first | assumption | (refine OkS.sto ?_ (by omega); first | assumption)))))) | exact Pfx.refl _ | (apply Pfx.snoc; repeat (first | exact Pfx.refl _ | assumption | apply Pfx.snoc)) | with_unfolding_all exact of_eq_true (eq_true rfl) | (simp only [List.length_append, List.length_cons, List.length_nil]; omega)) only [↓wpre0, ↓wpre1, ↓reduceIte, Int.reduceToNat, Nat.reduceAdd, Nat.reduceMul, Nat.reduceEqDiff, wpost0, wpost1, wpost2, wpost3, wpost4, ite_self, ite_true, ite_false, if_true, if_false, un_not, xld27, xbls29_0, xbls29_1, xlen29, bin_lss, xiad29, xld32, bin_add, fr17, wrap_int, wrap_u8, iteP_yes, iteP_no, hZ1.len] | refine iteP_two (fun hc hd => ?_) (fun hc hd => ?_) | refine iteP_intro (fun hc => ?_) (fun hc => ?_))
  refine loop_rounds (fun mm e h' => ∃ (i : Nat) (z : Value), mm = n - i ∧ i ≤ n ∧ Pfx (h ++ [(⟨27, [.int .i64 u, .int .i64 v]⟩ : Blk)]) h' ∧ H1.length ≤ h'.length ∧ (∀ b, h.length + 2 ≤ b → b < H1.length → h'[b]? = H1[b]?) ∧ (bOf z = h.length + 1 ∨ H1.length ≤ bOf z) ∧ e 1 = y ∧ e 8 = z ∧ e 23 = z1 ∧ e 24 = .int .i64 n ∧ e 25 = .int .i64 i ∧ VG (h.length + 1) 32 1 h' z i (rowV i (fun i => mulB (f i) (PH (stpN l u v i))))) _ ⟨0, .slice (some ⟨h.length + 1, 0, none⟩) 0 0, rfl, ?_⟩ ?_
  · simp only [updO_at, updO_not, entry_at, List.getD_cons_zero, List.getD_cons_succ, ↓reduceIte, Nat.reduceEqDiff, true_and, and_true]
    have k0 : ∀ b, h.length + 2 ≤ b → b < H1.length → H1[b]? = H1[b]? := fun _ _ _ => rfl
    exact ⟨Nat.zero_le _, pG, Nat.le_refl _, fun _ _ _ => trivial, .inl rfl, rfl, hO⟩
  · rintro mm e h' ⟨i, z, hmm, hle, hp, hlp, hk, hbz, g1, g8, g23, g24, g25, hZ⟩
    have hks : (i : Int) + 1 = ((i + 1 : Nat) : Int) := by omega
    have hF' := hF.pre (p0.trans hp)
    have hR : RowB (h.length + 2) h' z1 n (fun i => PH (stpN l u v i)) := (hR0.frame hk).wide (Nat.le_refl _) hlp
    by_cases hin : i < n
    · obtain ⟨H, ap, vg, old, hlen⟩ := acc1 (P := Try.prog) (ro := ro) (T := 29) (h := h') (v := toV (mulB (f i) (PH (stpN l u v i)))) tel29 tsz32 tby32 tze32 (.inl hZ) (by omega) (by omega) rfl (by omega) (by omega)
      rw [← rowV_succ] at vg
      have hM := Mul_r (ro := ro) (X := X) hX (hok i hin) h'
      have pH := old.1 _ hp (by rw [el]; exact Nat.le_refl _)
      have kH : ∀ b, h.length + 2 ≤ b → b < H1.length → H[b]? = H1[b]? := fun b b1 b2 => (old.2.1 b (by omega) (.inr (by omega))).trans (hk b b1 b2)
      (repeat' first | simp -dsimp (disch := first | omega | assumption | (refine OkS.sto ?_ (by omega); first | assumption | (refine OkS.sto ?_ (by omega); first | assumption | (refine OkS.sto ?_ (by omega); first | assumption | (refine OkS.sto ?_ (by omega); first | assumption | (refine OkS.sto ?_ (by omega); first | assumption | (refine OkS.sto ?_ (by omega); first | assumption)))))) | exact Pfx.refl _ | (apply Pfx.snoc; repeat (first | exact Pfx.refl _ | assumption | apply Pfx.snoc)) | with_unfolding_all exact of_eq_true (eq_true rfl) | (simp only [List.length_append, List.length_cons, List.length_nil]; omega)) only [↓wpre0, ↓wpre1, ↓reduceIte, Int.reduceToNat, Nat.reduceAdd, Nat.reduceMul, Nat.reduceEqDiff, wpost0, wpost1, wpost2, wpost3, wpost4, ite_self, ite_true, ite_false, if_true, if_false, un_not, xld27, xbls29_0, xbls29_1, xlen29, bin_lss, xiad29, xld32, bin_add, fr17, wrap_int, wrap_u8, iteP_yes, iteP_no, g1, g8, g23, g24, g25, hR.iad, hR.ld, hF'.iad, hF'.ld, hM, ap] | refine iteP_two (fun hc hd => ?_) (fun hc hd => ?_) | refine iteP_intro (fun hc => ?_) (fun hc => ?_))
      exact ⟨n - (i + 1), by omega, i + 1, _, rfl, by omega, pH, by omega, kH, .inr (by show H1.length ≤ h'.length + 1; omega), rfl, by rw [hks], vg⟩
    · have ei : i = n := by omega
      subst ei
      have hnf : Sim.flat (.tuple ⟨[z, .bool true]⟩) = false := by obtain ⟨_, b, cap, rfl, _⟩ := hZ; rfl
      (repeat' first | simp -dsimp (disch := first | omega | assumption | (refine OkS.sto ?_ (by omega); first | assumption | (refine OkS.sto ?_ (by omega); first | assumption | (refine OkS.sto ?_ (by omega); first | assumption | (refine OkS.sto ?_ (by omega); first | assumption | (refine OkS.sto ?_ (by omega); first | assumption | (refine OkS.sto ?_ (by omega); first | assumption)))))) | exact Pfx.refl _ | (apply Pfx.snoc; repeat (first | exact Pfx.refl _ | assumption | apply Pfx.snoc)) | with_unfolding_all exact of_eq_true (eq_true rfl) | (simp only [List.length_append, List.length_cons, List.length_nil]; omega)) only [↓wpre0, ↓wpre1, ↓reduceIte, Int.reduceToNat, Nat.reduceAdd, Nat.reduceMul, Nat.reduceEqDiff, wpost0, wpost1, wpost2, wpost3, wpost4, ite_self, ite_true, ite_false, if_true, if_false, un_not, xld27, xbls29_0, xbls29_1, xlen29, bin_lss, xiad29, xld32, bin_add, fr17, wrap_int, wrap_u8, iteP_yes, iteP_no, g1, g8, g23, g24, g25, endH_not hnf] | refine iteP_two (fun hc hd => ?_) (fun hc hd => ?_) | refine iteP_intro (fun hc => ?_) (fun hc => ?_))
      exact ⟨z, rfl, p0.trans hp, hZ.vsl.wide (by omega) (Nat.le_refl _)⟩
set_option maxHeartbeats 4000000 in
theorem Outer_c {lo' p q : Nat} {f g : Nat → CB} (hX : XN X) (hA : RowB lo h x p f) (hB : RowB lo' h y q g) (p1 : 1 ≤ p) (q1 : 1 ≤ q) (hpq : p * q ≤ 16) (hp16 : p ≤ 16) (hq16 : q ≤ 16) (hok : ∀ i j, i < p → j < q → okM (f i) (g j)) (hro : ro ≤ h.length) :
    CallR Try.prog ro X 20 [x, y] h (fun r h' => ∃ z, r = .tuple ⟨[z, .bool true]⟩ ∧ Pfx h h' ∧ RowB h.length h' z (q * p) (fun t => mulB (f (t % p)) (g (t / p)))) := by
  have la := hA.len (ro := ro)
  have lb := hB.len (ro := ro)
  have hmul : (p : Int) * (q : Int) = ((p * q : Nat) : Int) := (Int.natCast_mul _ _).symm
  have h16 : ¬ (16 : Int) < ((p * q : Nat) : Int) := by omega
  have hb16 : ((p * q : Nat) : Int) ≤ 16 := by omega
  have hb0 : 0 ≤ (p : Int) * (q : Int) := Int.mul_nonneg (by omega) (by omega)
  refine callR_of (hX _ rfl) Try.func20 rfl (by kernel_rfl) (Nat.le_of_ble_eq_true rfl) ?_
  (repeat' first | simp -dsimp (disch := first | omega | assumption | (refine OkS.sto ?_ (by omega); first | assumption | (refine OkS.sto ?_ (by omega); first | assumption | (refine OkS.sto ?_ (by omega); first | assumption | (refine OkS.sto ?_ (by omega); first | assumption | (refine OkS.sto ?_ (by omega); first | assumption | (refine OkS.sto ?_ (by omega); first | assumption)))))) | exact Pfx.refl _ | (apply Pfx.snoc; repeat (first | exact Pfx.refl _ | assumption | apply Pfx.snoc)) | with_unfolding_all exact of_eq_true (eq_true rfl) | (simp only [List.length_append, List.length_cons, List.length_nil]; omega)) only [↓wpre0, ↓wpre1, ↓reduceIte, Int.reduceToNat, Nat.reduceAdd, Nat.reduceMul, Nat.reduceEqDiff, wpost0, wpost1, wpost2, wpost3, wpost4, ite_self, ite_true, ite_false, if_true, if_false, un_not, xlen29, bin_mul, bin_gtr, xbls29_0, xbls29_1, bin_lss, xiad29, xld32, bin_add, fr20, wrap_int, wrap_u8, iteP_yes, iteP_no, areW_r hX la p1 hp16, areW_r hX lb q1 hq16, la, lb, hmul, h16] | refine iteP_two (fun hc hd => ?_) (fun hc hd => ?_) | refine iteP_intro (fun hc => ?_) (fun hc => ?_))
  refine loop_rounds (fun mm e h' => ∃ (j : Nat) (z : Value), mm = q - j ∧ j ≤ q ∧ Pfx h h' ∧ e 0 = x ∧ e 6 = z ∧ e 28 = y ∧ e 29 = .int .i64 q ∧ e 30 = .int .i64 j ∧ VG h.length 32 1 h' z (j * p) (rowV (j * p) (fun t => mulB (f (t % p)) (g (t / p))))) _ ⟨0, .slice (some ⟨h.length, 0, none⟩) 0 0, rfl, ?_⟩ ?_
  · simp only [updO_at, updO_not, entry_at, List.getD_cons_zero, List.getD_cons_succ, ↓reduceIte, Nat.reduceEqDiff, true_and, and_true]
    have q1 : Pfx h (h ++ [(⟨32, []⟩ : Blk)]) := (Pfx.refl h).snoc
    have q2 : VG h.length 32 1 (h ++ [(⟨32, []⟩ : Blk)]) (.slice (some ⟨h.length, 0, none⟩) 0 0) (0 * p) (rowV (0 * p) (fun t => mulB (f (t % p)) (g (t / p)))) := by rw [Nat.zero_mul]; exact vg_new h (Nat.le_refl _)
    (repeat' (first | assumption | rfl | omega | exact q1 | exact q2 | exact Nat.zero_le _ | refine And.intro ?_ ?_))
  · rintro mm e h' ⟨j, z, hmm, hle, hp, g0, g6, g28, g29, g30, hZ⟩
    have hjs : (j : Int) + 1 = ((j + 1 : Nat) : Int) := by omega
    have hlp := hp.len
    have hB2 := hB.pre hp
    by_cases hj : j < q
    · (repeat' first | simp -dsimp (disch := first | omega | assumption | (refine OkS.sto ?_ (by omega); first | assumption | (refine OkS.sto ?_ (by omega); first | assumption | (refine OkS.sto ?_ (by omega); first | assumption | (refine OkS.sto ?_ (by omega); first | assumption | (refine OkS.sto ?_ (by omega); first | assumption | (refine OkS.sto ?_ (by omega); first | assumption)))))) | exact Pfx.refl _ | (apply Pfx.snoc; repeat (first | exact Pfx.refl _ | assumption | apply Pfx.snoc)) | with_unfolding_all exact of_eq_true (eq_true rfl) | (simp only [List.length_append, List.length_cons, List.length_nil]; omega)) only [↓wpre0, ↓wpre1, ↓reduceIte, Int.reduceToNat, Nat.reduceAdd, Nat.reduceMul, Nat.reduceEqDiff, wpost0, wpost1, wpost2, wpost3, wpost4, ite_self, ite_true, ite_false, if_true, if_false, un_not, xlen29, bin_mul, bin_gtr, xbls29_0, xbls29_1, bin_lss, xiad29, xld32, bin_add, fr20, wrap_int, wrap_u8, iteP_yes, iteP_no, g0, g6, g28, g29, g30, hB2.iad, hB2.ld, la] | refine iteP_two (fun hc hd => ?_) (fun hc hd => ?_) | refine iteP_intro (fun hc => ?_) (fun hc => ?_))
      refine loop_rounds (fun mm e h2 => ∃ (i : Nat) (z : Value), mm = p - i ∧ i ≤ p ∧ Pfx h h2 ∧ e 0 = x ∧ e 6 = z ∧ e 8 = toV (g j) ∧ e 28 = y ∧ e 29 = .int .i64 q ∧ e 30 = .int .i64 j ∧ e 34 = x ∧ e 35 = .int .i64 p ∧ e 36 = .int .i64 i ∧ VG h.length 32 1 h2 z (j * p + i) (rowV (j * p + i) (fun t => mulB (f (t % p)) (g (t / p))))) _ ⟨0, z, rfl, ?_⟩ ?_
      · simp only [updO_at, updO_not, entry_at, List.getD_cons_zero, List.getD_cons_succ, ↓reduceIte, Nat.reduceEqDiff, true_and, and_true]
        (repeat' (first | assumption | rfl | omega | exact hp | exact hZ | exact Nat.zero_le _ | refine And.intro ?_ ?_))
      · clear hp hlp hZ g0 g6 g28 g29 g30 hB2
        rintro mm e h2 ⟨i, z, hmm, hli, hp, g0, g6, g8, g28, g29, g30, g34, g35, g36, hZ⟩
        have hks : (i : Int) + 1 = ((i + 1 : Nat) : Int) := by omega
        have hlp := hp.len
        have hA2 := hA.pre hp
        by_cases hi : i < p
        · have hm : j * p + i < 16 := by
            have := Nat.mul_le_mul_right p (show j + 1 ≤ q from hj)
            rw [Nat.add_mul, Nat.one_mul, Nat.mul_comm q p] at this
            omega
          have em1 : (j * p + i) % p = i := by rw [Nat.mul_comm, Nat.mul_add_mod, Nat.mod_eq_of_lt hi]
          have em2 : (j * p + i) / p = j := by rw [Nat.mul_comm, Nat.mul_add_div (by omega), Nat.div_eq_of_lt hi, Nat.add_zero]
          have hM := Mul_r (ro := ro) (X := X) hX (hok i j hi hj) h2
          obtain ⟨H, ap, vg, old, hlen⟩ := acc1 (P := Try.prog) (ro := ro) (T := 29) (h := h2) (v := toV (mulB (f i) (g j))) tel29 tsz32 tby32 tze32 (.inl hZ) (by omega) (by omega) rfl (by omega) (by omega)
          have eV : rowV (j * p + i) (fun t => mulB (f (t % p)) (g (t / p))) ++ [toV (mulB (f i) (g j))] = rowV (j * p + (i + 1)) (fun t => mulB (f (t % p)) (g (t / p))) := by rw [← Nat.add_assoc, rowV_succ, em1, em2]
          rw [eV, Nat.add_assoc] at vg
          have pH := old.1 h hp (Nat.le_refl _)
          (repeat' first | simp -dsimp (disch := first | omega | assumption | (refine OkS.sto ?_ (by omega); first | assumption | (refine OkS.sto ?_ (by omega); first | assumption | (refine OkS.sto ?_ (by omega); first | assumption | (refine OkS.sto ?_ (by omega); first | assumption | (refine OkS.sto ?_ (by omega); first | assumption | (refine OkS.sto ?_ (by omega); first | assumption)))))) | exact Pfx.refl _ | (apply Pfx.snoc; repeat (first | exact Pfx.refl _ | assumption | apply Pfx.snoc)) | with_unfolding_all exact of_eq_true (eq_true rfl) | (simp only [List.length_append, List.length_cons, List.length_nil]; omega)) only [↓wpre0, ↓wpre1, ↓reduceIte, Int.reduceToNat, Nat.reduceAdd, Nat.reduceMul, Nat.reduceEqDiff, wpost0, wpost1, wpost2, wpost3, wpost4, ite_self, ite_true, ite_false, if_true, if_false, un_not, xlen29, bin_mul, bin_gtr, xbls29_0, xbls29_1, bin_lss, xiad29, xld32, bin_add, fr20, wrap_int, wrap_u8, iteP_yes, iteP_no, g0, g6, g8, g28, g29, g30, g34, g35, g36, hA2.iad, hA2.ld, hM, ap] | refine iteP_two (fun hc hd => ?_) (fun hc hd => ?_) | refine iteP_intro (fun hc => ?_) (fun hc => ?_))
          exact ⟨p - (i + 1), by omega, i + 1, _, rfl, by omega, pH, rfl, by rw [hks], vg⟩
        · have ei : i = p := by omega
          subst ei
          have hZ' : VG h.length 32 1 h2 z ((j + 1) * i) (rowV ((j + 1) * i) (fun t => mulB (f (t % i)) (g (t / i)))) := by rw [Nat.add_mul, Nat.one_mul]; exact hZ
          (repeat' first | simp -dsimp (disch := first | omega | assumption | (refine OkS.sto ?_ (by omega); first | assumption | (refine OkS.sto ?_ (by omega); first | assumption | (refine OkS.sto ?_ (by omega); first | assumption | (refine OkS.sto ?_ (by omega); first | assumption | (refine OkS.sto ?_ (by omega); first | assumption | (refine OkS.sto ?_ (by omega); first | assumption)))))) | exact Pfx.refl _ | (apply Pfx.snoc; repeat (first | exact Pfx.refl _ | assumption | apply Pfx.snoc)) | with_unfolding_all exact of_eq_true (eq_true rfl) | (simp only [List.length_append, List.length_cons, List.length_nil]; omega)) only [↓wpre0, ↓wpre1, ↓reduceIte, Int.reduceToNat, Nat.reduceAdd, Nat.reduceMul, Nat.reduceEqDiff, wpost0, wpost1, wpost2, wpost3, wpost4, ite_self, ite_true, ite_false, if_true, if_false, un_not, xlen29, bin_mul, bin_gtr, xbls29_0, xbls29_1, bin_lss, xiad29, xld32, bin_add, fr20, wrap_int, wrap_u8, iteP_yes, iteP_no, g0, g6, g8, g28, g29, g30, g34, g35, g36] | refine iteP_two (fun hc hd => ?_) (fun hc hd => ?_) | refine iteP_intro (fun hc => ?_) (fun hc => ?_))
          exact ⟨q - (j + 1), by omega, j + 1, _, rfl, by omega, hp, rfl, by rw [hjs], hZ'⟩
    · have ej : j = q := by omega
      subst ej
      have hnf : Sim.flat (.tuple ⟨[z, .bool true]⟩) = false := by obtain ⟨_, b, cap, rfl, _⟩ := hZ; rfl
      (repeat' first | simp -dsimp (disch := first | omega | assumption | (refine OkS.sto ?_ (by omega); first | assumption | (refine OkS.sto ?_ (by omega); first | assumption | (refine OkS.sto ?_ (by omega); first | assumption | (refine OkS.sto ?_ (by omega); first | assumption | (refine OkS.sto ?_ (by omega); first | assumption | (refine OkS.sto ?_ (by omega); first | assumption)))))) | exact Pfx.refl _ | (apply Pfx.snoc; repeat (first | exact Pfx.refl _ | assumption | apply Pfx.snoc)) | with_unfolding_all exact of_eq_true (eq_true rfl) | (simp only [List.length_append, List.length_cons, List.length_nil]; omega)) only [↓wpre0, ↓wpre1, ↓reduceIte, Int.reduceToNat, Nat.reduceAdd, Nat.reduceMul, Nat.reduceEqDiff, wpost0, wpost1, wpost2, wpost3, wpost4, ite_self, ite_true, ite_false, if_true, if_false, un_not, xlen29, bin_mul, bin_gtr, xbls29_0, xbls29_1, bin_lss, xiad29, xld32, bin_add, fr20, wrap_int, wrap_u8, iteP_yes, iteP_no, g0, g6, g28, g29, g30, endH_not hnf] | refine iteP_two (fun hc hd => ?_) (fun hc hd => ?_) | refine iteP_intro (fun hc => ?_) (fun hc => ?_))
      exact ⟨z, rfl, hp, hZ.vsl⟩
theorem GainAt_r {l : List Int} {u v : Int} {f : Nat → CB} (hX : XN X) (hA : XAbs X) (k : PW ro h x y n l f) (hd : dirB u v = true) (hro : ro ≤ h.length) (hok : ∀ i, i < n → okC (f i)) (hN : okN (pwS f n)) : Ret Try.prog ro X 10 [x, y, .agg ⟨[.int .i64 u, .int .i64 v]⟩] h (.tuple ⟨[.float .f32 (farith .quo .f32 (poF f l n u v) (nr (pwS f n))), .bool true]⟩) := by
  have hb : boxV h 27 (.agg ⟨[.int .i64 u, .int .i64 v]⟩) = some (.pointer (some ⟨h.length, 0, none⟩), h ++ [⟨27, [.int .i64 u, .int .i64 v]⟩]) := box_go rfl
  have p0 : Pfx h (h ++ [(⟨27, [.int .i64 u, .int .i64 v]⟩ : Blk)]) := (Pfx.refl h).snoc
  have k0 := k.pre p0
  have hn : n ≤ 64 := by have := k.g.n16; omega
  obtain ⟨lw, hw⟩ := k0.w
  have hP := PowerAt_r (ro := ro) hX hA k0 hd (by simp; omega)
  have hS := PowersOf_r (ro := ro) hX hw hn hok hN
  have cD : cells (h ++ [(⟨27, [.int .i64 u, .int .i64 v]⟩ : Blk)]) h.length 0 2 = some (.agg ⟨[.int .i64 u, .int .i64 v]⟩) := cells_last rfl (by simp)
  refine ret_of (callR_of (hX _ rfl) Try.func10 rfl (by kernel_rfl) (Nat.le_of_ble_eq_true rfl) ?_)
  (repeat' first | simp -dsimp (disch := first | omega | assumption | (refine OkS.sto ?_ (by omega); first | assumption | (refine OkS.sto ?_ (by omega); first | assumption | (refine OkS.sto ?_ (by omega); first | assumption | (refine OkS.sto ?_ (by omega); first | assumption | (refine OkS.sto ?_ (by omega); first | assumption | (refine OkS.sto ?_ (by omega); first | assumption)))))) | exact Pfx.refl _ | (apply Pfx.snoc; repeat (first | exact Pfx.refl _ | assumption | apply Pfx.snoc)) | with_unfolding_all exact of_eq_true (eq_true rfl) | (simp only [List.length_append, List.length_cons, List.length_nil]; omega)) only [↓wpre0, ↓wpre1, ↓reduceIte, Int.reduceToNat, Nat.reduceAdd, Nat.reduceMul, Nat.reduceEqDiff, wpost0, wpost1, wpost2, wpost3, wpost4, ite_self, ite_true, ite_false, if_true, if_false, xld27, un_not, bin_fquo, fr10, wrap_int, wrap_u8, iteP_yes, iteP_no, hb, cD, hP, hS, endH_flat, p0] | refine iteP_two (fun hc hd => ?_) (fun hc hd => ?_) | refine iteP_intro (fun hc => ?_) (fun hc => ?_))
/-- The gap of two numbers. -/
def gbF (a b : Nat) : Nat := if fcmp .lss .f64 a b then farith .sub .f64 b a else farith .sub .f64 a b
theorem b10Gap_r (hX : XN X) (a b : Nat) (h : Heap) : Ret Try.prog ro X 15 [.float .f64 a, .float .f64 b] h (.float .f64 (gbF a b)) := by
  refine ret_of (callR_of (hX _ rfl) Try.func15 rfl (by kernel_rfl) (Nat.le_of_ble_eq_true rfl) ?_)
  by_cases q : fcmp .lss .f64 a b = true
  · have e : gbF a b = farith .sub .f64 b a := by unfold gbF; rw [if_pos q]
    rw [e]
    (repeat' first | simp -dsimp (disch := first | omega | assumption | (refine OkS.sto ?_ (by omega); first | assumption | (refine OkS.sto ?_ (by omega); first | assumption | (refine OkS.sto ?_ (by omega); first | assumption | (refine OkS.sto ?_ (by omega); first | assumption | (refine OkS.sto ?_ (by omega); first | assumption | (refine OkS.sto ?_ (by omega); first | assumption)))))) | exact Pfx.refl _ | (apply Pfx.snoc; repeat (first | exact Pfx.refl _ | assumption | apply Pfx.snoc)) | with_unfolding_all exact of_eq_true (eq_true rfl) | (simp only [List.length_append, List.length_cons, List.length_nil]; omega)) only [↓wpre0, ↓wpre1, ↓reduceIte, Int.reduceToNat, Nat.reduceAdd, Nat.reduceMul, Nat.reduceEqDiff, wpost0, wpost1, wpost2, wpost3, wpost4, ite_self, ite_true, ite_false, if_true, if_false, bin_flss, bin_fsub, fr15, wrap_int, wrap_u8, iteP_yes, iteP_no, q] | refine iteP_two (fun hc hd => ?_) (fun hc hd => ?_) | refine iteP_intro (fun hc => ?_) (fun hc => ?_))
  · have q' : fcmp .lss .f64 a b = false := by simpa using q
    have e : gbF a b = farith .sub .f64 a b := by unfold gbF; rw [if_neg q]
    rw [e]
    (repeat' first | simp -dsimp (disch := first | omega | assumption | (refine OkS.sto ?_ (by omega); first | assumption | (refine OkS.sto ?_ (by omega); first | assumption | (refine OkS.sto ?_ (by omega); first | assumption | (refine OkS.sto ?_ (by omega); first | assumption | (refine OkS.sto ?_ (by omega); first | assumption | (refine OkS.sto ?_ (by omega); first | assumption)))))) | exact Pfx.refl _ | (apply Pfx.snoc; repeat (first | exact Pfx.refl _ | assumption | apply Pfx.snoc)) | with_unfolding_all exact of_eq_true (eq_true rfl) | (simp only [List.length_append, List.length_cons, List.length_nil]; omega)) only [↓wpre0, ↓wpre1, ↓reduceIte, Int.reduceToNat, Nat.reduceAdd, Nat.reduceMul, Nat.reduceEqDiff, wpost0, wpost1, wpost2, wpost3, wpost4, ite_self, ite_true, ite_false, if_true, if_false, bin_flss, bin_fsub, fr15, wrap_int, wrap_u8, iteP_yes, iteP_no, q'] | refine iteP_two (fun hc hd => ?_) (fun hc hd => ?_) | refine iteP_intro (fun hc => ?_) (fun hc => ?_))
theorem b10Near_r (hX : XN X) {c d : CB} {t : Nat} (hc : okC c) (hd : okC d) (h1 : fcmp .leq .f64 (gbF (wd c.a) (wd d.a)) t = true) (h2 : fcmp .leq .f64 (gbF (wd c.b) (wd d.b)) t = true) (h : Heap) : Ret Try.prog ro X 11 [toV c, toV d, .float .f64 t] h (.bool true) := by
  refine ret_of (callR_of (hX _ rfl) Try.func11 rfl (by kernel_rfl) (Nat.le_of_ble_eq_true rfl) ?_)
  (repeat' first | simp -dsimp (disch := first | omega | assumption | (refine OkS.sto ?_ (by omega); first | assumption | (refine OkS.sto ?_ (by omega); first | assumption | (refine OkS.sto ?_ (by omega); first | assumption | (refine OkS.sto ?_ (by omega); first | assumption | (refine OkS.sto ?_ (by omega); first | assumption | (refine OkS.sto ?_ (by omega); first | assumption)))))) | exact Pfx.refl _ | (apply Pfx.snoc; repeat (first | exact Pfx.refl _ | assumption | apply Pfx.snoc)) | with_unfolding_all exact of_eq_true (eq_true rfl) | (simp only [List.length_append, List.length_cons, List.length_nil]; omega)) only [↓wpre0, ↓wpre1, ↓reduceIte, Int.reduceToNat, Nat.reduceAdd, Nat.reduceMul, Nat.reduceEqDiff, wpost0, wpost1, wpost2, wpost3, wpost4, ite_self, ite_true, ite_false, if_true, if_false, blt_real, xcv35_39, bin_fleq, blt_imag, fr11, wrap_int, wrap_u8, iteP_yes, iteP_no, cv_w hc.1, cv_w hc.2, cv_w hd.1, cv_w hd.2, b10Gap_r hX, h1, h2] | refine iteP_two (fun hc hd => ?_) (fun hc hd => ?_) | refine iteP_intro (fun hc => ?_) (fun hc => ?_))
end Go.Proofs.Ytkhipobafchilaa.Sim

/- Complex whole numbers, and floats that are near to them. Lemmas only; no condition. -/
set_option linter.unusedSimpArgs false
set_option linter.unusedVariables false
set_option maxRecDepth 8000
namespace Go.Proofs.Ytkhipobafchilaa.Sim
open Go Go.RowKit Fl
/-- Complex whole numbers. -/
structure Gi where
  x : Int
  y : Int
namespace Gi
instance : Add Gi := ⟨fun a b => ⟨a.x + b.x, a.y + b.y⟩⟩
instance : Sub Gi := ⟨fun a b => ⟨a.x - b.x, a.y - b.y⟩⟩
instance : Mul Gi := ⟨fun a b => ⟨a.x * b.x - a.y * b.y, a.x * b.y + a.y * b.x⟩⟩
def cj (a : Gi) : Gi := ⟨a.x, -a.y⟩
def of (n : Int) : Gi := ⟨n, 0⟩
def nm (a : Gi) : Nat := a.x.natAbs + a.y.natAbs
theorem add_x (a b : Gi) : (a + b).x = a.x + b.x := rfl
theorem add_y (a b : Gi) : (a + b).y = a.y + b.y := rfl
theorem sub_x (a b : Gi) : (a - b).x = a.x - b.x := rfl
theorem sub_y (a b : Gi) : (a - b).y = a.y - b.y := rfl
theorem mul_x (a b : Gi) : (a * b).x = a.x * b.x - a.y * b.y := rfl
theorem mul_y (a b : Gi) : (a * b).y = a.x * b.y + a.y * b.x := rfl
theorem cj_x (a : Gi) : a.cj.x = a.x := rfl
theorem cj_y (a : Gi) : a.cj.y = -a.y := rfl
theorem of_x (n : Int) : (of n).x = n := rfl
theorem of_y (n : Int) : (of n).y = 0 := rfl
theorem ext' {a b : Gi} (h1 : a.x = b.x) (h2 : a.y = b.y) : a = b := by cases a; cases b; simp_all
theorem nm_add (a b : Gi) : (a + b).nm ≤ a.nm + b.nm := by
  have e1 := Int.natAbs_add_le a.x b.x
  have e2 := Int.natAbs_add_le a.y b.y
  unfold nm
  rw [add_x, add_y]
  omega
theorem nm_sub (a b : Gi) : (a - b).nm ≤ a.nm + b.nm := by
  have e1 := Int.natAbs_sub_le a.x b.x
  have e2 := Int.natAbs_sub_le a.y b.y
  unfold nm
  rw [sub_x, sub_y]
  omega
theorem nm_mul (a b : Gi) : (a * b).nm ≤ a.nm * b.nm := by
  have e1 := Int.natAbs_sub_le (a.x * b.x) (a.y * b.y)
  have e2 := Int.natAbs_add_le (a.x * b.y) (a.y * b.x)
  rw [Int.natAbs_mul, Int.natAbs_mul] at e1 e2
  unfold nm
  rw [mul_x, mul_y]
  have ee : (a.x.natAbs + a.y.natAbs) * (b.x.natAbs + b.y.natAbs) = a.x.natAbs * b.x.natAbs + a.y.natAbs * b.y.natAbs + (a.x.natAbs * b.y.natAbs + a.y.natAbs * b.x.natAbs) := by grind
  rw [ee]
  omega
theorem nm_cj (a : Gi) : a.cj.nm = a.nm := by
  unfold nm
  rw [cj_x, cj_y, Int.natAbs_neg]
theorem nm_of (n : Int) : (of n).nm = n.natAbs := by simp [nm, of]
theorem nm_mul_le {a b : Gi} {p q : Nat} (h1 : a.nm ≤ p) (h2 : b.nm ≤ q) : (a * b).nm ≤ p * q := Nat.le_trans (nm_mul a b) (Nat.mul_le_mul h1 h2)
theorem nm_add_le {a b : Gi} {p q r : Nat} (h1 : a.nm ≤ p) (h2 : b.nm ≤ q) (h : p + q ≤ r) : (a + b).nm ≤ r := by have := nm_add a b; omega
theorem nm_sub_le {a b : Gi} {p q r : Nat} (h1 : a.nm ≤ p) (h2 : b.nm ≤ q) (h : p + q ≤ r) : (a - b).nm ≤ r := by have := nm_sub a b; omega
theorem nm_cj_le {a : Gi} {p : Nat} (h : a.nm ≤ p) : a.cj.nm ≤ p := by rw [nm_cj]; exact h
/-- A product with a number that is positive. -/
theorem nm_of_mul {a : Gi} {n : Nat} : (a * of n).nm = a.nm * n := by
  unfold nm
  rw [mul_x, mul_y, of_x, of_y, Int.mul_zero, Int.mul_zero, Int.sub_zero, Int.zero_add, Int.natAbs_mul, Int.natAbs_mul, Int.natAbs_natCast, Nat.add_mul]
theorem nm_le_of {a : Gi} {n K : Nat} (hn : 0 < n) (h : (a * of n).nm ≤ K * n) : a.nm ≤ K := by
  rw [nm_of_mul] at h
  exact Nat.le_of_mul_le_mul_right h hn
end Gi
open Gi
/-- The unit: 2 ^ 64. -/
def Qi : Gi := of 18446744073709551616
theorem nm_Qi : Qi.nm = 18446744073709551616 := rfl
/-- Whole parts of a number that is divided by the unit. -/
def flG (a : Gi) : Gi := ⟨a.x / 18446744073709551616, a.y / 18446744073709551616⟩
theorem flG_rest (a : Gi) : (flG a * Qi - a).nm ≤ 2 ^ 65 := by
  have e : (2 : Nat) ^ 65 = 36893488147419103232 := by decide
  unfold nm
  rw [sub_x, sub_y, mul_x, mul_y]
  show (a.x / 18446744073709551616 * 18446744073709551616 - a.y / 18446744073709551616 * 0 - a.x).natAbs + (a.x / 18446744073709551616 * 0 + a.y / 18446744073709551616 * 18446744073709551616 - a.y).natAbs ≤ _
  rw [e]
  omega
theorem flG_nm (a : Gi) : (flG a).nm ≤ a.nm / 18446744073709551616 + 3 := by
  unfold nm flG
  simp only
  omega
def nearG (c : CB) (Z : Gi) (E : Nat) : Prop := nearC c Z.x Z.y E
theorem nearG.cj {c : CB} {Z : Gi} {E : Nat} (h : nearG c Z E) : nearG (cjB c) Z.cj E := conj_near h
theorem nearG.mono {c : CB} {Z : Gi} {E F : Nat} (h : nearG c Z E) (hf : E ≤ F) : nearG c Z F := nearC.mono h hf
theorem nearP_shift {b : Nat} {X Y : Int} {E D : Nat} (h : nearP b X E) (hd : (X - Y).natAbs ≤ D) : nearP b Y (E + D) := by
  obtain ⟨v, h1, h2⟩ := h
  refine ⟨v, h1, ?_⟩
  have e : X * 2 ^ 85 - Y * 2 ^ 85 = (X - Y) * 2 ^ 85 := (Int.sub_mul _ _ _).symm
  have h3 : (X * 2 ^ 85 - Y * 2 ^ 85).natAbs ≤ D * 2 ^ 85 := by rw [e, abs_mul_pow]; exact Nat.mul_le_mul_right _ hd
  have := abs_tri h2 h3
  rw [Nat.add_mul]
  exact this
theorem nearG.shift {c : CB} {Z W : Gi} {E D : Nat} (h : nearG c Z E) (hd : (Z - W).nm ≤ D) : nearG c W (E + D) := by
  unfold nm at hd
  rw [sub_x, sub_y] at hd
  exact ⟨nearP_shift h.a (by omega), nearP_shift h.b (by omega)⟩
theorem pow64 : (2 : Nat) ^ 64 = 18446744073709551616 := by decide
theorem mulQ {c d : CB} {Z W : Gi} {E F n1 n2 V k k1 k2 : Nat} (hkk : k1 + k2 ≤ 138) (hk : k ≤ 72) (hk1 : 62 ≤ k) (hc : nearG c Z E) (hd : nearG d W F) (h1 : Z.nm ≤ n1) (h2 : W.nm ≤ n2) (hE : n1 + E ≤ 2 ^ k1) (hF : n2 + F ≤ 2 ^ k2) (hW : E * (n2 + 2 * F) + n1 * F + 2 ^ 89 ≤ V * 2 ^ 64) (hT : n1 * n2 / 18446744073709551616 + 3 + V ≤ 2 ^ k) :
    okM c d ∧ nearG (mulB c d) (flG (Z * W)) (V + 2 ^ (k - 24)) ∧ (flG (Z * W)).nm ≤ n1 * n2 / 18446744073709551616 + 3 := by
  have f := flG_nm (Z * W)
  have m := nm_mul_le h1 h2
  have f2 : (flG (Z * W)).nm ≤ n1 * n2 / 18446744073709551616 + 3 := by
    have := Nat.div_le_div_right (c := 18446744073709551616) m
    omega
  have f3 := f2
  unfold nm at f3
  obtain ⟨a, b⟩ := mulG (T := (flG (Z * W)).x) (U := (flG (Z * W)).y) hkk hk hk1 hc hd h1 h2 hE hF hW (fl_rest _) (fl_rest _) (Nat.le_trans (Nat.add_le_add_right (by omega) V) hT) (Nat.le_trans (Nat.add_le_add_right (by omega) V) hT)
  exact ⟨a, b, f2⟩
/-- Sums. -/
def suG (T : Nat → Gi) : Nat → Gi
  | 0 => of 0
  | n + 1 => suG T n + T n
theorem suG_le {T : Nat → Gi} {B : Nat} : ∀ {n : Nat}, (∀ i, i < n → (T i).nm ≤ B) → (suG T n).nm ≤ n * B
  | 0, _ => by simp [suG, nm, of]
  | n + 1, h => by
    have ih := suG_le (fun i hi => h i (Nat.lt_succ_of_lt hi))
    rw [Nat.add_mul, Nat.one_mul]
    exact nm_add_le ih (h n (Nat.lt_succ_self n)) (Nat.le_refl _)
theorem dotQ {f g : Nat → CB} {T : Nat → Gi} {K A B k N : Nat} (hk : k ≤ 72) (hk1 : 62 ≤ k) (hB : B = K + 2 ^ (k - 24)) (hb : N * A + N * B ≤ 2 ^ k) : ∀ {n : Nat}, n ≤ N → (∀ i, i < n → (T i).nm ≤ A) → (∀ i, i < n → nearG (mulB (f i) (g i)) (T i) K) → nearG (dotB f g n) (suG T n) (n * B) := by
  intro n
  induction n with
  | zero =>
    intro _ _ _
    rw [Nat.zero_mul]
    exact ⟨zeroP_near, zeroP_near⟩
  | succ n IH =>
    intro hn hT h
    have ih := IH (by omega) (fun i hi => hT i (Nat.lt_succ_of_lt hi)) (fun i hi => h i (Nat.lt_succ_of_lt hi))
    have s1 := suG_le (n := n) (B := A) (fun i hi => hT i (Nat.lt_succ_of_lt hi))
    have hl := hT n (Nat.lt_succ_self n)
    have m1 : (n + 1) * A ≤ N * A := Nat.mul_le_mul_right _ hn
    have m2 : (n + 1) * B ≤ N * B := Nat.mul_le_mul_right _ hn
    rw [Nat.add_mul, Nat.one_mul] at m1 m2
    have hKB : K ≤ B := by rw [hB]; exact Nat.le_add_right _ _
    unfold nm at s1 hl
    have k1 := addG hk hk1 ih.a (h n (Nat.lt_succ_self n)).a (by omega)
    have k2 := addG hk hk1 ih.b (h n (Nat.lt_succ_self n)).b (by omega)
    have e : n * B + K + 2 ^ (k - 24) = (n + 1) * B := by rw [Nat.add_mul, Nat.one_mul, Nat.add_assoc, hB]
    rw [e] at k1 k2
    exact ⟨k1, k2⟩
/-! ### Turns -/
def qG (s : Int) : Gi := ⟨qX Wt (stM s), qY Wt (stM s)⟩
theorem qG_nm (s : Int) : (qG s).nm ≤ 26087636000000000000 := n_unit (q_sq2 _)
theorem stM_addP (s t : Int) : stM (s + t) = (stM s + stM t) % 4096 := by unfold stM; omega
theorem qG_add (s t : Int) : (qG (s + t) * Qi - qG s * qG t).nm ≤ 2 ^ 101 := by
  obtain ⟨h1, h2⟩ := q_near2 tabW (stM s) (stM t)
  have e1 : (qG (s + t)).x = qX Wt (stM s + stM t) := by
    show qX Wt (stM (s + t)) = _
    rw [stM_addP]; exact (q_mod _).1
  have e2 : (qG (s + t)).y = qY Wt (stM s + stM t) := by
    show qY Wt (stM (s + t)) = _
    rw [stM_addP]; exact (q_mod _).2
  have e : (2 : Nat) ^ 101 = 2 ^ 100 + 2 ^ 100 := by decide
  unfold nm
  rw [sub_x, sub_y, mul_x, mul_y, mul_x, mul_y, e1, e2, e]
  refine Nat.add_le_add ?_ ?_
  · have : qX Wt (stM s + stM t) * Qi.x - qY Wt (stM s + stM t) * Qi.y = qX Wt (stM s + stM t) * 18446744073709551616 := by
      show _ * _ - _ * 0 = _
      rw [Int.mul_zero, Int.sub_zero]; rfl
    rw [this]; exact h1
  · have : qX Wt (stM s + stM t) * Qi.y + qY Wt (stM s + stM t) * Qi.x = qY Wt (stM s + stM t) * 18446744073709551616 := by
      show _ * 0 + _ = _
      rw [Int.mul_zero, Int.zero_add]; rfl
    rw [this]; exact h2
theorem qG_sq (s : Int) : (qG s * (qG s).cj - Qi * Qi).nm ≤ 2 ^ 86 := by
  have h := q_sq2 (stM s)
  unfold nm
  rw [sub_x, sub_y, mul_x, mul_y, mul_x, mul_y]
  show (qX Wt (stM s) * qX Wt (stM s) - qY Wt (stM s) * -qY Wt (stM s) - (18446744073709551616 * 18446744073709551616 - 0 * 0)).natAbs + (qX Wt (stM s) * -qY Wt (stM s) + qY Wt (stM s) * qX Wt (stM s) - (18446744073709551616 * 0 + 0 * 18446744073709551616)).natAbs ≤ _
  generalize qX Wt (stM s) = a at *
  generalize qY Wt (stM s) = b at *
  have e1 : a * -b + b * a - (18446744073709551616 * 0 + 0 * 18446744073709551616) = 0 := by grind
  have e2 : a * a - b * -b - (18446744073709551616 * 18446744073709551616 - 0 * 0) = -((340282366920938463463374607431768211456 : Int) - (a * a + b * b)) := by grind
  rw [e1, e2, Int.natAbs_neg]
  exact h
theorem PH_q {s : Int} (hs : s.natAbs < 2 ^ 27) : nearG (PH s) (qG s) (2 ^ 41) := PH_near hs
/-- Sixteenths. -/
theorem fine_P {b : Nat} (h : bd .f32 150 b) : ∃ X : Int, nearP b X 1 ∧ X.natAbs ≤ 2 ^ 65 := by
  obtain ⟨v, h1, h2⟩ := h
  refine ⟨v / 2 ^ 85, ⟨v, h1, ?_⟩, ?_⟩
  · have := Int.mul_ediv_add_emod v (2 ^ 85)
    have e0 := Int.emod_nonneg v (show (2 : Int) ^ 85 ≠ 0 by decide)
    have e1 := Int.emod_lt_of_pos v (show (0 : Int) < 2 ^ 85 by decide)
    have ez : v - v / 2 ^ 85 * 2 ^ 85 = v % 2 ^ 85 := by rw [Int.mul_comm (v / 2 ^ 85)]; omega
    rw [ez, Nat.one_mul]
    have e3 : (2 : Int) ^ 85 = ((2 ^ 85 : Nat) : Int) := by decide
    rw [e3] at e0 e1 ⊢
    omega
  · have e3 : (2 : Nat) ^ 150 = 2 ^ 65 * 2 ^ 85 := by decide
    have e4 : (2 : Nat) ^ 65 = 36893488147419103232 := by decide
    have e5 : (2 : Nat) ^ 85 = 38685626227668133590597632 := by decide
    have e6 : (2 : Int) ^ 85 = 38685626227668133590597632 := by decide
    rw [e3, e4, e5] at h2
    rw [e4, e6]
    omega
theorem fine_G {c : CB} (h : bdC 150 c) : ∃ Z : Gi, nearG c Z 1 ∧ Z.nm ≤ 2 ^ 66 := by
  obtain ⟨X, h1, h2⟩ := fine_P h.a
  obtain ⟨Y, h3, h4⟩ := fine_P h.b
  refine ⟨⟨X, Y⟩, ⟨h1, h3⟩, ?_⟩
  have e : (2 : Nat) ^ 66 = 2 ^ 65 + 2 ^ 65 := by decide
  unfold nm
  rw [e]
  exact Nat.add_le_add h2 h4
end Go.Proofs.Ytkhipobafchilaa.Sim

/- Patterns as complex whole numbers. Lemmas only; no condition. -/
set_option linter.unusedSimpArgs false
set_option linter.unusedVariables false
set_option maxRecDepth 8000
namespace Go.Proofs.Ytkhipobafchilaa.Sim
open Go Go.RowKit Fl
open Gi
theorem suG_x {T : Nat → Gi} : ∀ n, (suG T n).x = suZ (fun i => (T i).x) n
  | 0 => rfl
  | n + 1 => by
    have ih := suG_x (T := T) n
    show (suG T n).x + (T n).x = suZ _ n + _
    rw [ih]
theorem suG_y {T : Nat → Gi} : ∀ n, (suG T n).y = suZ (fun i => (T i).y) n
  | 0 => rfl
  | n + 1 => by
    have ih := suG_y (T := T) n
    show (suG T n).y + (T n).y = suZ _ n + _
    rw [ih]
theorem suG_const : ∀ n : Nat, suG (fun _ => Qi) n = of ((n : Int) * 18446744073709551616)
  | 0 => rfl
  | n + 1 => by
    have ih := suG_const n
    show suG (fun _ => Qi) n + Qi = _
    rw [ih]
    refine Gi.ext' ?_ rfl
    show (n : Int) * 18446744073709551616 + 18446744073709551616 = ((n + 1 : Nat) : Int) * 18446744073709551616
    omega
theorem add_sub_add (a b c d : Gi) : (a + b) - (c + d) = (a - c) + (b - d) := Gi.ext' (by simp only [add_x, sub_x]; omega) (by simp only [add_y, sub_y]; omega)
theorem suG_dif {A B : Nat → Gi} {D : Nat} : ∀ {n : Nat}, (∀ i, i < n → (A i - B i).nm ≤ D) → (suG A n - suG B n).nm ≤ n * D
  | 0, _ => by simp [suG, nm, of, sub_x, sub_y]
  | n + 1, h => by
    have ih := suG_dif (fun i hi => h i (Nat.lt_succ_of_lt hi))
    show ((suG A n + A n) - (suG B n + B n)).nm ≤ _
    rw [add_sub_add, Nat.add_mul, Nat.one_mul]
    exact nm_add_le ih (h n (Nat.lt_succ_self n)) (Nat.le_refl _)
theorem near_abs2 {b : Nat} {X : Int} {E k : Nat} (h : nearP b X E) (hX : X.natAbs + E ≤ 2 ^ k) : bd .f32 (k + 85) b := by
  obtain ⟨v, h1, h2⟩ := h
  exact ⟨v, h1, near_absG (M := 0) h2 hX⟩
theorem PH_b150 {s : Int} (hs : s.natAbs < 2 ^ 27) : bdC 150 (PH s) := by
  have h := PH_q hs
  have q := qG_nm s
  unfold nm at q
  have e : (2 : Nat) ^ 65 = 36893488147419103232 := by decide
  have e2 : (2 : Nat) ^ 41 = 2199023255552 := by decide
  exact ⟨near_abs2 (k := 65) h.a (by rw [e, e2]; omega), near_abs2 (k := 65) h.b (by rw [e, e2]; omega)⟩
theorem QQ : Qi * Qi = of ((340282366920938463463374607431768211456 : Nat) : Int) := Gi.ext' (by decide +kernel) (by decide +kernel)
theorem QQQ : Qi * Qi * Qi = of ((6277101735386680763835789423207666416102355444464034512896 : Nat) : Int) := Gi.ext' (by decide +kernel) (by decide +kernel)
/-! ### Own -/
theorem own_i (s : Int) : (flG ((qG s).cj * qG s) - Qi).nm ≤ 2 ^ 23 := by
  obtain ⟨r, hr⟩ : ∃ r, r = flG ((qG s).cj * qG s) * Qi - (qG s).cj * qG s := ⟨_, rfl⟩
  have h1 := flG_rest ((qG s).cj * qG s)
  rw [← hr] at h1
  have h2 := qG_sq s
  have e : (flG ((qG s).cj * qG s) - Qi) * of ((18446744073709551616 : Nat) : Int) = r + (qG s * (qG s).cj - Qi * Qi) := by
    rw [hr]
    show (flG ((qG s).cj * qG s) - Qi) * Qi = _
    generalize flG ((qG s).cj * qG s) = a
    generalize qG s = b
    refine Gi.ext' ?_ ?_ <;> simp only [add_x, add_y, sub_x, sub_y, mul_x, mul_y, cj_x, cj_y] <;> grind
  refine nm_le_of (n := 18446744073709551616) (by decide) ?_
  rw [e]
  exact nm_add_le h1 h2 (by decide)
theorem own_near {st : Nat → Int} {n : Nat} (hn : n ≤ 16) (hs : ∀ i, i < n → (st i).natAbs < 2 ^ 27) : nearG (dotB (fun i => cjB (PH (st i))) (fun i => PH (st i)) n) (of ((n : Int) * 18446744073709551616)) (2 ^ 50) := by
  have D := dotQ (f := fun i => cjB (PH (st i))) (g := fun i => PH (st i)) (T := fun _ => Qi) (K := 2 ^ 44) (A := 18446744073709551616) (B := 2 ^ 44 + 2 ^ 45) (k := 69) (N := 16) (by decide) (by decide) rfl (by decide) hn (fun i _ => Nat.le_refl _) (fun i hi => by
    obtain ⟨_, h2, _⟩ := mulQ (k := 66) (k1 := 66) (k2 := 66) (n1 := 26087636000000000000) (n2 := 26087636000000000000) (V := 2 ^ 43) (by decide) (by decide) (by decide) (PH_q (hs i hi)).cj (PH_q (hs i hi)) (nm_cj_le (qG_nm _)) (qG_nm _) (by decide) (by decide) (by decide) (by decide)
    exact (h2.shift (own_i (st i))).mono (by decide))
  rw [suG_const] at D
  refine D.mono ?_
  have : n * (2 ^ 44 + 2 ^ 45) ≤ 16 * (2 ^ 44 + 2 ^ 45) := Nat.mul_le_mul_right _ hn
  exact Nat.le_trans this (by decide)
/-! ### Another direction -/
theorem sq_nat (a : Int) : a * a = ((a.natAbs * a.natAbs : Nat) : Int) := by rw [← Int.natAbs_mul_self]
theorem oth_ar {p q P R Q L C : Nat} (h1 : P * Q ≤ p + Q) (h2 : R * Q ≤ q + Q) (h : p * p + q * q ≤ C) (hs : p + q ≤ L) : (P * P + R * R) * (Q * Q) ≤ C + 2 * (L * Q) + 2 * (Q * Q) := by
  have a := Nat.mul_le_mul h1 h1
  have b := Nat.mul_le_mul h2 h2
  have e1 : P * Q * (P * Q) = P * P * (Q * Q) := by grind
  have e2 : R * Q * (R * Q) = R * R * (Q * Q) := by grind
  have e3 : (p + Q) * (p + Q) + (q + Q) * (q + Q) = p * p + q * q + 2 * ((p + q) * Q) + 2 * (Q * Q) := by grind
  have m : (p + q) * Q ≤ L * Q := Nat.mul_le_mul_right _ hs
  rw [Nat.add_mul, ← e1, ← e2]
  omega
theorem q_len (s : Int) : (qG s).x * (qG s).x + (qG s).y * (qG s).y ≤ 340282366920938463463374607431768211456 + 77371252455336267181195264 := by
  have h := q_sq2 (stM s)
  have e : (2 : Nat) ^ 86 = 77371252455336267181195264 := by decide
  rw [e] at h
  show qX Wt (stM s) * qX Wt (stM s) + qY Wt (stM s) * qY Wt (stM s) ≤ _
  omega
theorem fl_abs (a : Int) : (a / 18446744073709551616).natAbs * 18446744073709551616 ≤ a.natAbs + 18446744073709551616 := by omega
theorem oth_i (s t : Int) : (flG ((qG s).cj * qG t)).x * (flG ((qG s).cj * qG t)).x + (flG ((qG s).cj * qG t)).y * (flG ((qG s).cj * qG t)).y ≤ 340282366920938463463374607431768211456 + 309485009821345068724781056 := by
  obtain ⟨w, hw⟩ : ∃ w, w = (qG s).cj * qG t := ⟨_, rfl⟩
  have hs := q_len s
  have ht := q_len t
  have nw : w.nm ≤ 26087636000000000000 * 26087636000000000000 := by rw [hw]; exact nm_mul_le (nm_cj_le (qG_nm _)) (qG_nm _)
  have ew : w.x * w.x + w.y * w.y = ((qG s).x * (qG s).x + (qG s).y * (qG s).y) * ((qG t).x * (qG t).x + (qG t).y * (qG t).y) := by
    rw [hw]
    simp only [mul_x, mul_y, cj_x, cj_y]
    grind
  have lw : w.x.natAbs * w.x.natAbs + w.y.natAbs * w.y.natAbs ≤ (340282366920938463463374607431768211456 + 77371252455336267181195264) * (340282366920938463463374607431768211456 + 77371252455336267181195264) := by
    rw [sq_nat, sq_nat (w.y), sq_nat ((qG s).x), sq_nat ((qG s).y), sq_nat ((qG t).x), sq_nat ((qG t).y)] at ew
    rw [sq_nat ((qG s).x), sq_nat ((qG s).y)] at hs
    rw [sq_nat ((qG t).x), sq_nat ((qG t).y)] at ht
    have ew' : w.x.natAbs * w.x.natAbs + w.y.natAbs * w.y.natAbs = ((qG s).x.natAbs * (qG s).x.natAbs + (qG s).y.natAbs * (qG s).y.natAbs) * ((qG t).x.natAbs * (qG t).x.natAbs + (qG t).y.natAbs * (qG t).y.natAbs) := by
      have := ew
      simp only [← Int.natCast_add, ← Int.natCast_mul] at this
      exact Int.ofNat.inj this
    rw [ew']
    exact Nat.mul_le_mul (by omega) (by omega)
  rw [← hw]
  unfold nm at nw
  have h1 : (flG w).x.natAbs * 18446744073709551616 ≤ w.x.natAbs + 18446744073709551616 := fl_abs _
  have h2 : (flG w).y.natAbs * 18446744073709551616 ≤ w.y.natAbs + 18446744073709551616 := fl_abs _
  have h3 := oth_ar h1 h2 lw nw
  rw [sq_nat, sq_nat ((flG w).y)]
  have h4 : (flG w).x.natAbs * (flG w).x.natAbs + (flG w).y.natAbs * (flG w).y.natAbs ≤ 340282366920938463463374607431768211456 + 309485009821345068724781056 := by
    refine Nat.le_of_mul_le_mul_right (Nat.le_trans h3 ?_) (show 0 < 18446744073709551616 * 18446744073709551616 by decide)
    decide
  omega
theorem suZ_mono {f : Nat → Int} {B : Int} : ∀ {n : Nat}, (∀ i, i < n → f i ≤ B) → suZ f n ≤ (n : Int) * B
  | 0, _ => by simp [suZ]
  | n + 1, h => by
    have ih := suZ_mono (fun i hi => h i (Nat.lt_succ_of_lt hi))
    have := h n (Nat.lt_succ_self n)
    have e : ((n + 1 : Nat) : Int) * B = (n : Int) * B + B := by
      have : ((n + 1 : Nat) : Int) = (n : Int) + 1 := by omega
      rw [this, Int.add_mul, Int.one_mul]
    show suZ f n + f n ≤ _
    rw [e]; omega
theorem suZ_add (f g : Nat → Int) : ∀ n, suZ (fun k => f k + g k) n = suZ f n + suZ g n
  | 0 => by simp [suZ]
  | n + 1 => by
    have ih := suZ_add f g n
    simp only [suZ, ih]
    omega
theorem oth_near {sa sb : Nat → Int} {n : Nat} (hn : n ≤ 16) (ha : ∀ i, i < n → (sa i).natAbs < 2 ^ 27) (hb : ∀ i, i < n → (sb i).natAbs < 2 ^ 27) : ∃ Z : Gi, nearG (dotB (fun i => cjB (PH (sa i))) (fun i => PH (sb i)) n) Z (2 ^ 51) ∧ Z.x * Z.x + Z.y * Z.y ≤ (n : Int) * ((n : Int) * (340282366920938463463374607431768211456 + 309485009821345068724781056)) := by
  have per : ∀ i, i < n → nearG (mulB (cjB (PH (sa i))) (PH (sb i))) (flG ((qG (sa i)).cj * qG (sb i))) (2 ^ 43 + 2 ^ 42) ∧ (flG ((qG (sa i)).cj * qG (sb i))).nm ≤ 26087636000000000000 * 26087636000000000000 / 18446744073709551616 + 3 := fun i hi =>
    (mulQ (k := 66) (k1 := 66) (k2 := 66) (n1 := 26087636000000000000) (n2 := 26087636000000000000) (V := 2 ^ 43) (by decide) (by decide) (by decide) (PH_q (ha i hi)).cj (PH_q (hb i hi)) (nm_cj_le (qG_nm _)) (qG_nm _) (by decide) (by decide) (by decide) (by decide)).2
  have D := dotQ (f := fun i => cjB (PH (sa i))) (g := fun i => PH (sb i)) (K := 2 ^ 43 + 2 ^ 42) (A := 26087636000000000000 * 26087636000000000000 / 18446744073709551616 + 3) (B := 2 ^ 43 + 2 ^ 42 + 2 ^ 46) (k := 70) (N := 16) (by decide) (by decide) rfl (by decide) hn (fun i hi => (per i hi).2) (fun i hi => (per i hi).1)
  refine ⟨_, D.mono ?_, ?_⟩
  · have : n * (2 ^ 43 + 2 ^ 42 + 2 ^ 46) ≤ 16 * (2 ^ 43 + 2 ^ 42 + 2 ^ 46) := Nat.mul_le_mul_right _ hn
    exact Nat.le_trans this (by decide)
  · rw [suG_x, suG_y]
    have c1 := cauchy (fun i => (flG ((qG (sa i)).cj * qG (sb i))).x) n
    have c2 := cauchy (fun i => (flG ((qG (sa i)).cj * qG (sb i))).y) n
    have s := suZ_mono (n := n) (f := fun i => (flG ((qG (sa i)).cj * qG (sb i))).x * (flG ((qG (sa i)).cj * qG (sb i))).x + (flG ((qG (sa i)).cj * qG (sb i))).y * (flG ((qG (sa i)).cj * qG (sb i))).y) (fun i _ => oth_i (sa i) (sb i))
    rw [suZ_add] at s
    refine Int.le_trans (Int.add_le_add c1 c2) ?_
    rw [← Int.mul_add]
    exact Int.mul_le_mul_of_nonneg_left s (Int.natCast_nonneg _)
/-! ### Any weights -/
theorem fin_i {f : CB} {F : Gi} (h1 : nearG f F 1) (h2 : F.nm ≤ 2 ^ 66) {s : Int} (hs : s.natAbs < 2 ^ 27) : okM (cjB f) (PH s) ∧ nearG (mulB (cjB f) (PH s)) (flG (F.cj * qG s)) (2 ^ 44 + 2 ^ 43) ∧ (flG (F.cj * qG s)).nm ≤ 2 ^ 66 * 26087636000000000000 / 18446744073709551616 + 3 :=
  mulQ (k := 67) (k1 := 67) (k2 := 66) (n1 := 2 ^ 66) (n2 := 26087636000000000000) (V := 2 ^ 44) (by decide) (by decide) (by decide) h1.cj (PH_q hs) (nm_cj_le h2) (qG_nm _) (by decide) (by decide) (by decide) (by decide)
theorem fin_near {f : Nat → CB} {F : Nat → Gi} {st : Nat → Int} {n : Nat} (hn : n ≤ 16) (h1 : ∀ i, i < n → nearG (f i) (F i) 1 ∧ (F i).nm ≤ 2 ^ 66) (hs : ∀ i, i < n → (st i).natAbs < 2 ^ 27) : nearG (dotB (fun i => cjB (f i)) (fun i => PH (st i)) n) (suG (fun i => flG ((F i).cj * qG (st i))) n) (2 ^ 52) ∧ (suG (fun i => flG ((F i).cj * qG (st i))) n).nm ≤ n * (2 ^ 66 * 26087636000000000000 / 18446744073709551616 + 3) := by
  have per := fun i hi => (fin_i (h1 i hi).1 (h1 i hi).2 (hs i hi)).2
  have D := dotQ (f := fun i => cjB (f i)) (g := fun i => PH (st i)) (T := fun i => flG ((F i).cj * qG (st i))) (K := 2 ^ 44 + 2 ^ 43) (A := 2 ^ 66 * 26087636000000000000 / 18446744073709551616 + 3) (B := 2 ^ 44 + 2 ^ 43 + 2 ^ 47) (k := 71) (N := 16) (by decide) (by decide) rfl (by decide) hn (fun i hi => (per i hi).2) (fun i hi => (per i hi).1)
  refine ⟨D.mono ?_, suG_le fun i hi => (per i hi).2⟩
  have : n * (2 ^ 44 + 2 ^ 43 + 2 ^ 47) ≤ 16 * (2 ^ 44 + 2 ^ 43 + 2 ^ 47) := Nat.mul_le_mul_right _ hn
  exact Nat.le_trans this (by decide)
/-! ### Moved weights -/
theorem mov_id {Q : Int} {A B M f qh qs qhs e1 e2 e3 e4 e5 : Gi} (h1 : e1 = M * of Q - f * qh) (h2 : e2 = A * of Q - M.cj * qhs) (h3 : e3 = B * of Q - f.cj * qs) (h4 : e4 = qhs * of Q - qh * qs) (h5 : e5 = qh * qh.cj - of Q * of Q) :
    (A - B) * (of Q * of Q * of Q) = (e2 - e3) * (of Q * of Q) + f.cj * qs * e5 + e1.cj * (qh * qs) + (f.cj * qh.cj + e1.cj) * e4 := by
  subst h1 h2 h3 h4 h5
  refine Gi.ext' ?_ ?_ <;> simp only [add_x, add_y, sub_x, sub_y, mul_x, mul_y, cj_x, cj_y, of_x, of_y] <;> grind
theorem mov_i {F : Gi} (hF : F.nm ≤ 2 ^ 66) (h s : Int) : (flG ((flG (F * qG h)).cj * qG (h + s)) - flG (F.cj * qG s)).nm ≤ 2 ^ 40 := by
  obtain ⟨M, hM⟩ : ∃ M, M = flG (F * qG h) := ⟨_, rfl⟩
  have r1 := flG_rest (F * qG h)
  rw [← hM] at r1 ⊢
  have r2 := flG_rest (M.cj * qG (h + s))
  have r3 := flG_rest (F.cj * qG s)
  have r4 := qG_add h s
  have r5 := qG_sq h
  have n1 := qG_nm h
  have n2 := qG_nm s
  have id := mov_id (Q := 18446744073709551616) (A := flG (M.cj * qG (h + s))) (B := flG (F.cj * qG s)) (M := M) (f := F) (qh := qG h) (qs := qG s) (qhs := qG (h + s)) rfl rfl rfl rfl rfl
  change (_ - _) * (Qi * Qi * Qi) = (flG (M.cj * qG (h + s)) * Qi - M.cj * qG (h + s) - (flG (F.cj * qG s) * Qi - F.cj * qG s)) * (Qi * Qi) + F.cj * qG s * (qG h * (qG h).cj - Qi * Qi) + (M * Qi - F * qG h).cj * (qG h * qG s) + (F.cj * (qG h).cj + (M * Qi - F * qG h).cj) * (qG (h + s) * Qi - qG h * qG s) at id
  refine nm_le_of (n := 6277101735386680763835789423207666416102355444464034512896) (by decide) ?_
  rw [← QQQ, id]
  refine nm_add_le (nm_add_le (nm_add_le (nm_mul_le (nm_sub_le r2 r3 (Nat.le_refl _)) (nm_mul_le (Nat.le_refl _) (Nat.le_refl _))) (nm_mul_le (nm_mul_le (nm_cj_le hF) n2) r5) (Nat.le_refl _)) (nm_mul_le (nm_cj_le r1) (nm_mul_le n1 n2)) (Nat.le_refl _)) (nm_mul_le (nm_add_le (nm_mul_le (nm_cj_le hF) (nm_cj_le n1)) (nm_cj_le r1) (Nat.le_refl _)) r4) ?_
  rw [nm_Qi]
  decide
def q5 : Nat := 2 ^ 66 * 26087636000000000000 / 18446744073709551616 + 3
theorem mov_w {f : CB} {F : Gi} (h1 : nearG f F 1) (h2 : F.nm ≤ 2 ^ 66) {h : Int} (hh : h.natAbs < 2 ^ 27) : okM f (PH h) ∧ nearG (mulB f (PH h)) (flG (F * qG h)) (2 ^ 44 + 2 ^ 43) ∧ (flG (F * qG h)).nm ≤ q5 :=
  mulQ (k := 67) (k1 := 67) (k2 := 66) (n1 := 2 ^ 66) (n2 := 26087636000000000000) (V := 2 ^ 44) (by decide) (by decide) (by decide) h1 (PH_q hh) h2 (qG_nm _) (by decide) (by decide) (by decide) (by decide)
theorem mov_p {f : CB} {F : Gi} (h1 : nearG f F 1) (h2 : F.nm ≤ 2 ^ 66) {h s : Int} (hh : h.natAbs < 2 ^ 27) (hs : s.natAbs < 2 ^ 27) : okM (cjB (mulB f (PH h))) (PH s) ∧ nearG (mulB (cjB (mulB f (PH h))) (PH s)) (flG ((flG (F * qG h)).cj * qG s)) (2 ^ 46 + 2 ^ 44) ∧ (flG ((flG (F * qG h)).cj * qG s)).nm ≤ q5 * 26087636000000000000 / 18446744073709551616 + 3 :=
  mulQ (k := 68) (k1 := 67) (k2 := 66) (n1 := q5) (n2 := 26087636000000000000) (V := 2 ^ 46) (by decide) (by decide) (by decide) (mov_w h1 h2 hh).2.1.cj (PH_q hs) (nm_cj_le (mov_w h1 h2 hh).2.2) (qG_nm _) (by decide) (by decide) (by decide) (by decide)
theorem mov_near {f : Nat → CB} {F : Nat → Gi} {hh st : Nat → Int} {n : Nat} (hn : n ≤ 16) (h1 : ∀ i, i < n → nearG (f i) (F i) 1 ∧ (F i).nm ≤ 2 ^ 66) (h2 : ∀ i, i < n → (hh i).natAbs < 2 ^ 27) (h3 : ∀ i, i < n → (hh i + st i).natAbs < 2 ^ 27) : nearG (dotB (fun i => cjB (mulB (f i) (PH (hh i)))) (fun i => PH (hh i + st i)) n) (suG (fun i => flG ((F i).cj * qG (st i))) n) (2 ^ 54) := by
  have per := fun i hi => (mov_p (h1 i hi).1 (h1 i hi).2 (h2 i hi) (h3 i hi)).2
  have D := dotQ (f := fun i => cjB (mulB (f i) (PH (hh i)))) (g := fun i => PH (hh i + st i)) (T := fun i => flG ((flG (F i * qG (hh i))).cj * qG (hh i + st i))) (K := 2 ^ 46 + 2 ^ 44) (A := q5 * 26087636000000000000 / 18446744073709551616 + 3) (B := 2 ^ 46 + 2 ^ 44 + 2 ^ 48) (k := 72) (N := 16) (by decide) (by decide) rfl (by decide) hn (fun i hi => (per i hi).2) (fun i hi => (per i hi).1)
  have S := suG_dif (n := n) (A := fun i => flG ((flG (F i * qG (hh i))).cj * qG (hh i + st i))) (B := fun i => flG ((F i).cj * qG (st i))) (D := 2 ^ 40) (fun i hi => mov_i (h1 i hi).2 (hh i) (st i))
  refine (D.shift S).mono ?_
  have e1 : n * (2 ^ 46 + 2 ^ 44 + 2 ^ 48) ≤ 16 * (2 ^ 46 + 2 ^ 44 + 2 ^ 48) := Nat.mul_le_mul_right _ hn
  have e2 : n * 2 ^ 40 ≤ 16 * 2 ^ 40 := Nat.mul_le_mul_right _ hn
  exact Nat.le_trans (Nat.add_le_add e1 e2) (by decide)
/-! ### Mirrored weights -/
theorem mir_id {Q : Int} {U T f w qj qk e1 e2 e3 e5 : Gi} (h1 : e1 = U * of Q - f * qk) (h2 : e2 = T * of Q - f.cj * qj) (h3 : e3 = w * of Q - qj * qk) (h5 : e5 = qj * qj.cj - of Q * of Q) :
    (U * of Q - w * T.cj) * (of Q * of Q) = e1 * (of Q * of Q) - (f * qk * e5 + qj * qk * e2.cj + e3 * (f * qj.cj + e2.cj)) := by
  subst h1 h2 h3 h5
  refine Gi.ext' ?_ ?_ <;> simp only [add_x, add_y, sub_x, sub_y, mul_x, mul_y, cj_x, cj_y, of_x, of_y] <;> grind
theorem mir_i {F : Gi} (hF : F.nm ≤ 2 ^ 66) (j k : Int) : (flG (F * qG k) * Qi - qG (j + k) * (flG (F.cj * qG j)).cj).nm ≤ 2 ^ 104 := by
  have r1 := flG_rest (F * qG k)
  have r2 := flG_rest (F.cj * qG j)
  have r3 := qG_add j k
  have r5 := qG_sq j
  have n1 := qG_nm j
  have n2 := qG_nm k
  have id := mir_id (Q := 18446744073709551616) (U := flG (F * qG k)) (T := flG (F.cj * qG j)) (f := F) (w := qG (j + k)) (qj := qG j) (qk := qG k) rfl rfl rfl rfl
  change (flG (F * qG k) * Qi - qG (j + k) * (flG (F.cj * qG j)).cj) * (Qi * Qi) = (flG (F * qG k) * Qi - F * qG k) * (Qi * Qi) - (F * qG k * (qG j * (qG j).cj - Qi * Qi) + qG j * qG k * (flG (F.cj * qG j) * Qi - F.cj * qG j).cj + (qG (j + k) * Qi - qG j * qG k) * (F * (qG j).cj + (flG (F.cj * qG j) * Qi - F.cj * qG j).cj)) at id
  refine nm_le_of (n := 340282366920938463463374607431768211456) (by decide) ?_
  rw [← QQ, id]
  refine nm_sub_le (nm_mul_le r1 (nm_mul_le (Nat.le_refl _) (Nat.le_refl _))) (nm_add_le (nm_add_le (nm_mul_le (nm_mul_le hF n2) r5) (nm_mul_le (nm_mul_le n1 n2) (nm_cj_le r2)) (Nat.le_refl _)) (nm_mul_le r3 (nm_add_le (nm_mul_le hF (nm_cj_le n1)) (nm_cj_le r2) (Nat.le_refl _))) (Nat.le_refl _)) ?_
  rw [nm_Qi]
  decide
theorem suG_congr {f g : Nat → Gi} : ∀ {n : Nat}, (∀ i, i < n → f i = g i) → suG f n = suG g n
  | 0, _ => rfl
  | n + 1, h => by
    show suG f n + f n = suG g n + g n
    rw [suG_congr (fun i hi => h i (Nat.lt_succ_of_lt hi)), h n (Nat.lt_succ_self n)]
theorem gi_comm (a b : Gi) : a + b = b + a := Gi.ext' (Int.add_comm _ _) (Int.add_comm _ _)
theorem gi_assoc (a b c : Gi) : a + b + c = a + (b + c) := Gi.ext' (Int.add_assoc _ _ _) (Int.add_assoc _ _ _)
theorem suG_head (f : Nat → Gi) : ∀ n, suG f (n + 1) = f 0 + suG (fun i => f (i + 1)) n
  | 0 => Gi.ext' (by show 0 + (f 0).x = (f 0).x + 0; omega) (by show 0 + (f 0).y = (f 0).y + 0; omega)
  | n + 1 => by
    have ih := suG_head f n
    show suG f (n + 1) + f (n + 1) = f 0 + (suG (fun i => f (i + 1)) n + f (n + 1))
    rw [ih, gi_assoc]
theorem suG_rev : ∀ (n : Nat) (g : Nat → Gi), suG (fun i => g (n - 1 - i)) n = suG g n
  | 0, _ => rfl
  | n + 1, g => by
    have ih := suG_rev n g
    rw [suG_head]
    show g (n + 1 - 1 - 0) + suG (fun i => g (n + 1 - 1 - (i + 1))) n = suG g n + g n
    rw [suG_congr (g := fun i => g (n - 1 - i)) (fun i _ => congrArg g (by omega)), ih, gi_comm]
    congr 1
theorem mir_sum {U T : Nat → Gi} {w : Gi} {D : Nat} : ∀ {n : Nat}, (∀ i, i < n → (U i * Qi - w * (T i).cj).nm ≤ D) → (suG U n * Qi - w * (suG T n).cj).nm ≤ n * D
  | 0, _ => by simp [suG, nm, of, sub_x, sub_y, mul_x, mul_y, cj_x, cj_y]
  | n + 1, h => by
    have ih := mir_sum (fun i hi => h i (Nat.lt_succ_of_lt hi))
    have e : (suG U n + U n) * Qi - w * (suG T n + T n).cj = (suG U n * Qi - w * (suG T n).cj) + (U n * Qi - w * (T n).cj) := by
      generalize Qi = q
      refine Gi.ext' ?_ ?_ <;> simp only [add_x, add_y, sub_x, sub_y, mul_x, mul_y, cj_x, cj_y] <;> grind
    show ((suG U n + U n) * Qi - w * (suG T n + T n).cj).nm ≤ _
    rw [e, Nat.add_mul, Nat.one_mul]
    exact nm_add_le ih (h n (Nat.lt_succ_self n)) (Nat.le_refl _)
theorem pw_id {Q : Int} {S R w d : Gi} (h : d = R * of Q - w * S.cj) : (R * R.cj - S * S.cj) * (of Q * of Q) = (w * w.cj - of Q * of Q) * (S * S.cj) + d * (w * S.cj).cj + w * S.cj * d.cj + d * d.cj := by
  subst h
  refine Gi.ext' ?_ ?_ <;> simp only [add_x, add_y, sub_x, sub_y, mul_x, mul_y, cj_x, cj_y, of_x, of_y] <;> grind
def sqG (a : Gi) : Int := a.x * a.x + a.y * a.y
theorem pw_dif {S R : Gi} {s : Int} (hd : (R * Qi - qG s * S.cj).nm ≤ 2 ^ 108) (hS : S.nm ≤ 2 ^ 71) : (sqG R - sqG S).natAbs ≤ 2 ^ 117 := by
  have r5 := qG_sq s
  have n1 := qG_nm s
  have id := pw_id (Q := 18446744073709551616) (S := S) (R := R) (w := qG s) rfl
  change (R * R.cj - S * S.cj) * (Qi * Qi) = (qG s * (qG s).cj - Qi * Qi) * (S * S.cj) + (R * Qi - qG s * S.cj) * (qG s * S.cj).cj + qG s * S.cj * (R * Qi - qG s * S.cj).cj + (R * Qi - qG s * S.cj) * (R * Qi - qG s * S.cj).cj at id
  have key : (R * R.cj - S * S.cj).nm ≤ 2 ^ 117 := by
    refine nm_le_of (n := 340282366920938463463374607431768211456) (by decide) ?_
    rw [← QQ, id]
    exact nm_add_le (nm_add_le (nm_add_le (nm_mul_le r5 (nm_mul_le hS (nm_cj_le hS))) (nm_mul_le hd (nm_cj_le (nm_mul_le n1 (nm_cj_le hS)))) (Nat.le_refl _)) (nm_mul_le (nm_mul_le n1 (nm_cj_le hS)) (nm_cj_le hd)) (Nat.le_refl _)) (nm_mul_le hd (nm_cj_le hd)) (by decide)
  have e : (R * R.cj - S * S.cj).x = sqG R - sqG S := by
    simp only [sub_x, mul_x, cj_x, cj_y, sqG]
    grind
  unfold nm at key
  rw [e] at key
  omega
/-- The powers of mirrored weights on a line: as whole numbers. -/
theorem mir_pw {F : Nat → Gi} {n : Nat} {t : Int} (hn : n ≤ 16) (hF : ∀ i, i < n → (F i).nm ≤ 2 ^ 66) : (sqG (suG (fun i => flG ((F (n - 1 - i)).cj.cj * qG ((i : Int) * t))) n) - sqG (suG (fun i => flG ((F i).cj * qG ((i : Int) * t))) n)).natAbs ≤ 2 ^ 117 := by
  have er : suG (fun i => flG ((F (n - 1 - i)).cj.cj * qG ((i : Int) * t))) n = suG (fun j => flG (F j * qG (((n - 1 - j : Nat) : Int) * t))) n := by
    rw [← suG_rev n (fun j => flG (F j * qG (((n - 1 - j : Nat) : Int) * t)))]
    refine suG_congr fun i hi => ?_
    have e1 : n - 1 - (n - 1 - i) = i := by omega
    have e2 : (F (n - 1 - i)).cj.cj = F (n - 1 - i) := Gi.ext' rfl (Int.neg_neg _)
    simp only [e1, e2]
  rw [er]
  have hs := mir_sum (n := n) (U := fun j => flG (F j * qG (((n - 1 - j : Nat) : Int) * t))) (T := fun i => flG ((F i).cj * qG ((i : Int) * t))) (w := qG (((n - 1 : Nat) : Int) * t)) (D := 2 ^ 104) (fun j hj => by
    have := mir_i (hF j hj) ((j : Int) * t) (((n - 1 - j : Nat) : Int) * t)
    have e : (j : Int) * t + ((n - 1 - j : Nat) : Int) * t = ((n - 1 : Nat) : Int) * t := by
      rw [← Int.add_mul]; congr 1; omega
    rw [e] at this
    exact this)
  refine pw_dif (s := ((n - 1 : Nat) : Int) * t) (Nat.le_trans hs ?_) ?_
  · exact Nat.le_trans (Nat.mul_le_mul_right _ hn) (by decide)
  · have := suG_le (n := n) (T := fun i => flG ((F i).cj * qG ((i : Int) * t))) (B := q5) (fun i hi => by
      have a := flG_nm ((F i).cj * qG ((i : Int) * t))
      have b := nm_mul_le (nm_cj_le (hF i hi)) (qG_nm ((i : Int) * t))
      have := Nat.div_le_div_right (c := 18446744073709551616) b
      unfold q5
      omega)
    exact Nat.le_trans this (Nat.le_trans (Nat.mul_le_mul_right _ hn) (by decide))
/-! ### Outer weights -/
theorem out_id {Q : Int} {O T F G f g qa qb qt e1 e2 e3 e4 e5 : Gi} (h1 : e1 = O * of Q - f * g) (h2 : e2 = T * of Q - O.cj * qt) (h3 : e3 = qt * of Q - qa * qb) (h4 : e4 = F * of Q - f.cj * qa) (h5 : e5 = G * of Q - g.cj * qb) :
    (T * of Q - F * G) * (of Q * of Q) = e2 * (of Q * of Q) + e1.cj * (qa * qb) + (f.cj * g.cj + e1.cj) * e3 - (e4 * (g.cj * qb + e5) + f.cj * qa * e5) := by
  subst h1 h2 h3 h4 h5
  refine Gi.ext' ?_ ?_ <;> simp only [add_x, add_y, sub_x, sub_y, mul_x, mul_y, cj_x, cj_y, of_x, of_y] <;> grind
theorem out_i {f g : Gi} (hf : f.nm ≤ 2 ^ 66) (hg : g.nm ≤ 2 ^ 66) (a b : Int) : (flG ((flG (f * g)).cj * qG (a + b)) * Qi - flG (f.cj * qG a) * flG (g.cj * qG b)).nm ≤ 2 ^ 106 := by
  have r1 := flG_rest (f * g)
  obtain ⟨O, hO⟩ : ∃ O, O = flG (f * g) := ⟨_, rfl⟩
  rw [← hO] at r1 ⊢
  have r2 := flG_rest (O.cj * qG (a + b))
  have r3 := qG_add a b
  have r4 := flG_rest (f.cj * qG a)
  have r5 := flG_rest (g.cj * qG b)
  have n1 := qG_nm a
  have n2 := qG_nm b
  have id := out_id (Q := 18446744073709551616) (O := O) (T := flG (O.cj * qG (a + b))) (F := flG (f.cj * qG a)) (G := flG (g.cj * qG b)) (f := f) (g := g) (qa := qG a) (qb := qG b) (qt := qG (a + b)) rfl rfl rfl rfl rfl
  change (flG (O.cj * qG (a + b)) * Qi - flG (f.cj * qG a) * flG (g.cj * qG b)) * (Qi * Qi) = (flG (O.cj * qG (a + b)) * Qi - O.cj * qG (a + b)) * (Qi * Qi) + (O * Qi - f * g).cj * (qG a * qG b) + (f.cj * g.cj + (O * Qi - f * g).cj) * (qG (a + b) * Qi - qG a * qG b) - ((flG (f.cj * qG a) * Qi - f.cj * qG a) * (g.cj * qG b + (flG (g.cj * qG b) * Qi - g.cj * qG b)) + f.cj * qG a * (flG (g.cj * qG b) * Qi - g.cj * qG b)) at id
  refine nm_le_of (n := 340282366920938463463374607431768211456) (by decide) ?_
  rw [← QQ, id]
  refine nm_sub_le (nm_add_le (nm_add_le (nm_mul_le r2 (nm_mul_le (Nat.le_refl _) (Nat.le_refl _))) (nm_mul_le (nm_cj_le r1) (nm_mul_le n1 n2)) (Nat.le_refl _)) (nm_mul_le (nm_add_le (nm_mul_le (nm_cj_le hf) (nm_cj_le hg)) (nm_cj_le r1) (Nat.le_refl _)) r3) (Nat.le_refl _)) (nm_add_le (nm_mul_le r4 (nm_add_le (nm_mul_le (nm_cj_le hg) n2) r5 (Nat.le_refl _))) (nm_mul_le (nm_mul_le (nm_cj_le hf) n1) r5) (Nat.le_refl _)) ?_
  rw [nm_Qi]
  decide
def q8 : Nat := 2 ^ 66 * 2 ^ 66 / 18446744073709551616 + 3
theorem out_w {f g : CB} {F G : Gi} (h1 : nearG f F 1) (h2 : F.nm ≤ 2 ^ 66) (h3 : nearG g G 1) (h4 : G.nm ≤ 2 ^ 66) : okM f g ∧ nearG (mulB f g) (flG (F * G)) (2 ^ 26 + 2 ^ 45) ∧ (flG (F * G)).nm ≤ q8 :=
  mulQ (k := 69) (k1 := 67) (k2 := 67) (n1 := 2 ^ 66) (n2 := 2 ^ 66) (V := 2 ^ 26) (by decide) (by decide) (by decide) h1 h3 h2 h4 (by decide) (by decide) (by decide) (by decide)
theorem out_p {f g : CB} {F G : Gi} (h1 : nearG f F 1) (h2 : F.nm ≤ 2 ^ 66) (h3 : nearG g G 1) (h4 : G.nm ≤ 2 ^ 66) {s : Int} (hs : s.natAbs < 2 ^ 27) : okM (cjB (mulB f g)) (PH s) ∧ nearG (mulB (cjB (mulB f g)) (PH s)) (flG ((flG (F * G)).cj * qG s)) (2 ^ 47 + 2 ^ 45) ∧ (flG ((flG (F * G)).cj * qG s)).nm ≤ q8 * 26087636000000000000 / 18446744073709551616 + 3 :=
  mulQ (k := 69) (k1 := 69) (k2 := 66) (n1 := q8) (n2 := 26087636000000000000) (V := 2 ^ 47) (by decide) (by decide) (by decide) (out_w h1 h2 h3 h4).2.1.cj (PH_q hs) (nm_cj_le (out_w h1 h2 h3 h4).2.2) (qG_nm _) (by decide) (by decide) (by decide) (by decide)
theorem six_id {Q : Int} (T F G : Nat → Gi) : suG (fun t => T t) 6 * of Q - suG F 3 * suG G 2 = suG (fun t => T t * of Q - F (t % 3) * G (t / 3)) 6 := by
  show (((((((of 0 + T 0) + T 1) + T 2) + T 3) + T 4) + T 5) * of Q - (((of 0 + F 0) + F 1) + F 2) * ((of 0 + G 0) + G 1)) = ((((((of 0 + (T 0 * of Q - F 0 * G 0)) + (T 1 * of Q - F 1 * G 0)) + (T 2 * of Q - F 2 * G 0)) + (T 3 * of Q - F 0 * G 1)) + (T 4 * of Q - F 1 * G 1)) + (T 5 * of Q - F 2 * G 1))
  refine Gi.ext' ?_ ?_ <;> simp only [add_x, add_y, sub_x, sub_y, mul_x, mul_y, cj_x, cj_y, of_x, of_y] <;> grind
theorem out_near {f g : Nat → CB} {F G : Nat → Gi} {a b : Nat → Int} (h1 : ∀ i, i < 3 → nearG (f i) (F i) 1 ∧ (F i).nm ≤ 2 ^ 66) (h2 : ∀ i, i < 2 → nearG (g i) (G i) 1 ∧ (G i).nm ≤ 2 ^ 66) (hs : ∀ t, t < 6 → (a (t % 3) + b (t / 3)).natAbs < 2 ^ 27) :
    ∃ Z, nearG (dotB (fun t => cjB (mulB (f (t % 3)) (g (t / 3)))) (fun t => PH (a (t % 3) + b (t / 3))) 6) Z (2 ^ 52) ∧ (Z - flG (suG (fun i => flG ((F i).cj * qG (a i))) 3 * suG (fun i => flG ((G i).cj * qG (b i))) 2)).nm ≤ 2 ^ 46 := by
  have m3 : ∀ t, t < 6 → t % 3 < 3 ∧ t / 3 < 2 := fun t ht => by omega
  have per := fun t ht => (out_p (h1 (t % 3) (m3 t ht).1).1 (h1 (t % 3) (m3 t ht).1).2 (h2 (t / 3) (m3 t ht).2).1 (h2 (t / 3) (m3 t ht).2).2 (hs t ht)).2
  have D := dotQ (f := fun t => cjB (mulB (f (t % 3)) (g (t / 3)))) (g := fun t => PH (a (t % 3) + b (t / 3))) (T := fun t => flG ((flG (F (t % 3) * G (t / 3))).cj * qG (a (t % 3) + b (t / 3)))) (K := 2 ^ 47 + 2 ^ 45) (A := q8 * 26087636000000000000 / 18446744073709551616 + 3) (B := 2 ^ 47 + 2 ^ 45 + 2 ^ 48) (k := 72) (N := 6) (n := 6) (by decide) (by decide) rfl (by decide) (by decide) (fun i hi => (per i hi).2) (fun i hi => (per i hi).1)
  refine ⟨_, D.mono (by decide), ?_⟩
  obtain ⟨Sp, hSp⟩ : ∃ Sp, Sp = suG (fun t => flG ((flG (F (t % 3) * G (t / 3))).cj * qG (a (t % 3) + b (t / 3)))) 6 := ⟨_, rfl⟩
  have id := six_id (Q := 18446744073709551616) (fun t => flG ((flG (F (t % 3) * G (t / 3))).cj * qG (a (t % 3) + b (t / 3)))) (fun i => flG ((F i).cj * qG (a i))) (fun i => flG ((G i).cj * qG (b i)))
  have S := suG_le (n := 6) (T := fun t => flG ((flG (F (t % 3) * G (t / 3))).cj * qG (a (t % 3) + b (t / 3))) * Qi - flG ((F (t % 3)).cj * qG (a (t % 3))) * flG ((G (t / 3)).cj * qG (b (t / 3)))) (B := 2 ^ 106) (fun t ht => out_i (h1 _ (m3 t ht).1).2 (h2 _ (m3 t ht).2).2 _ _)
  have S' : (Sp * Qi - suG (fun i => flG ((F i).cj * qG (a i))) 3 * suG (fun i => flG ((G i).cj * qG (b i))) 2).nm ≤ 6 * 2 ^ 106 := by
    rw [hSp]
    refine Nat.le_trans (Nat.le_of_eq ?_) S
    exact congrArg nm id
  rw [← hSp]
  clear id S hSp D per
  generalize suG (fun i => flG ((F i).cj * qG (a i))) 3 * suG (fun i => flG ((G i).cj * qG (b i))) 2 = W at *
  have r := flG_rest W
  refine nm_le_of (n := 18446744073709551616) (by decide) ?_
  have e : (Sp - flG W) * of ((18446744073709551616 : Nat) : Int) = (Sp * Qi - W) - (flG W * Qi - W) := by
    show (Sp - flG W) * Qi = _
    generalize flG W = V
    refine Gi.ext' ?_ ?_ <;> simp only [add_x, add_y, sub_x, sub_y, mul_x, mul_y, cj_x, cj_y] <;> grind
  rw [e]
  exact nm_sub_le S' r (by decide)
/-- The product of two sums. -/
theorem pr_near {c d : CB} {Z W : Gi} (hc : nearG c Z (2 ^ 52)) (hd : nearG d W (2 ^ 52)) (h1 : Z.nm ≤ 3 * q5) (h2 : W.nm ≤ 2 * q5) : okM c d ∧ nearG (mulB c d) (flG (Z * W)) (2 ^ 57 + 2 ^ 48) := by
  obtain ⟨a, b, _⟩ := mulQ (k := 72) (k1 := 69) (k2 := 69) (n1 := 3 * q5) (n2 := 2 * q5) (V := 2 ^ 57) (by decide) (by decide) (by decide) hc hd h1 h2 (by decide) (by decide) (by decide) (by decide)
  exact ⟨a, b⟩
end Go.Proofs.Ytkhipobafchilaa.Sim

/- Patterns: how near the floats of powers, lengths and gains are. Lemmas only; no condition. -/
set_option linter.unusedSimpArgs false
set_option linter.unusedVariables false
set_option maxRecDepth 8000
namespace Go.Proofs.Ytkhipobafchilaa.Sim
open Go Go.RowKit Fl
open Gi
theorem fin_uniq {k : FloatKind} {a : Nat} {u v : Int} (ha : Fl.fin k a u) (hb : Fl.fin k a v) : u = v := by
  have h1 := order_fin ha hb
  have h2 := order_fin ha ha
  rw [h1, Int.compare_eq_eq.2 rfl, Option.some.injEq] at h2
  exact Int.compare_eq_eq.1 h2
theorem cmp_gt {k : FloatKind} {a b : Nat} {u v : Int} (ha : Fl.fin k a u) (hb : Fl.fin k b v) (h : u ≤ v) : fcmp .lss k b a = false := by
  rw [cmp_lt hb ha]
  exact decide_eq_false (by omega)
theorem okW_fin {c : Nat} {v : Int} (hc : Fl.fin .f32 c v) : okW c := by
  obtain ⟨r, h1, _⟩ := widen_fin hc
  exact (okW_of h1).1
/-- The gap of two floats is not greater than a third. -/
theorem gap_le {a b t u : Nat} {va vb vt : Int} (ha : Fl.fin .f64 a va) (hb : Fl.fin .f64 b vb) (h : (va - vb).natAbs ≤ 2 ^ u) (hu : u ≤ 2000) (ht : Fl.fin .f64 t vt) (h2 : ((2 ^ u : Nat) : Int) ≤ vt) : fcmp .leq .f64 (gbF a b) t = true ∧ fcmp .lss .f64 t (gbF a b) = false := by
  have h' : (vb - va).natAbs ≤ 2 ^ u := by rw [← Int.natAbs_neg, Int.neg_sub]; exact h
  obtain ⟨v1, f1, g1, _⟩ := sub_err hb ha h' (by rw [mx64]; omega)
  obtain ⟨v2, f2, g2, _⟩ := sub_err ha hb h (by rw [mx64]; omega)
  generalize 2 ^ u = z at *
  unfold gbF
  split
  · exact ⟨by rw [cmp_le f1 ht]; exact decide_eq_true (by omega), cmp_gt f1 ht (by omega)⟩
  · exact ⟨by rw [cmp_le f2 ht]; exact decide_eq_true (by omega), cmp_gt f2 ht (by omega)⟩
theorem cent_fin {c : Nat} (hc : c = 1015) : Fl.fin .f64 4576918229304087675 (((5764607523034235 : Nat) : Int) * 2 ^ c) := by
  subst hc
  exact ⟨false, 5764607523034235, 1015, by decide +kernel, rfl⟩
theorem twen_fin {c : Nat} (hc : c = 1017) : Fl.fin .f64 4587366580439587226 (((7205759403792794 : Nat) : Int) * 2 ^ c) := by
  subst hc
  exact ⟨false, 7205759403792794, 1017, by decide +kernel, rfl⟩
theorem hal_fin {c : Nat} (hc : c = 1021) : Fl.fin .f64 4602678819172646912 (((4503599627370496 : Nat) : Int) * 2 ^ c) := by
  subst hc
  exact ⟨false, 4503599627370496, 1021, by decide +kernel, rfl⟩
theorem pow_c {u c M a : Nat} (h : u = a + c) (hM : 2 ^ a ≤ M) : ((2 ^ u : Nat) : Int) ≤ ((M : Nat) : Int) * 2 ^ c := by
  have e : ((M : Nat) : Int) * 2 ^ c = ((M * 2 ^ c : Nat) : Int) := by rw [Int.natCast_mul, Int.natCast_pow]; rfl
  rw [e, h, Nat.pow_add]
  exact Int.ofNat_le.2 (Nat.mul_le_mul_right _ hM)
/-- Two floats near to the same number. -/
theorem near_dif {a b : Nat} {X : Int} {E F κ u : Nat} (ha : nearP a X E) (hb : nearP b X F) (hE : E + F ≤ 2 ^ κ) (hu : u = κ + 1010) : okW a ∧ okW b ∧ ∃ va vb, Fl.fin .f64 (wd a) va ∧ Fl.fin .f64 (wd b) vb ∧ (va - vb).natAbs ≤ 2 ^ u := by
  obtain ⟨D, hD⟩ : ∃ D, D = 925 := ⟨_, rfl⟩
  obtain ⟨va, h1, h2⟩ := ha
  obtain ⟨vb, h3, h4⟩ := hb
  have wa := wd_fin h1
  have wb := wd_fin h3
  rw [← hD] at wa wb
  refine ⟨okW_fin h1, okW_fin h3, _, _, wa, wb, ?_⟩
  have e : va * 2 ^ D - vb * 2 ^ D = (va - vb) * 2 ^ D := (Int.sub_mul _ _ _).symm
  have h5 : (X * 2 ^ 85 - vb).natAbs ≤ F * 2 ^ 85 := by rw [← Int.natAbs_neg, Int.neg_sub]; exact h4
  have h6 := abs_tri h2 h5
  rw [e, abs_mul_pow, show u = κ + (85 + D) by omega, Nat.pow_add, Nat.pow_add, ← Nat.mul_assoc]
  refine Nat.mul_le_mul_right _ (Nat.le_trans h6 ?_)
  rw [← Nat.add_mul]
  exact Nat.mul_le_mul_right _ hE
theorem gap_cent {a b : Nat} {X : Int} {E F : Nat} (ha : nearP a X E) (hb : nearP b X F) (hE : E + F ≤ 2 ^ 57) : okW a ∧ okW b ∧ fcmp .leq .f64 (gbF (wd a) (wd b)) 4576918229304087675 = true := by
  obtain ⟨u, hu⟩ : ∃ u, u = 57 + 1010 := ⟨_, rfl⟩
  obtain ⟨c, hc⟩ : ∃ c, c = 1015 := ⟨_, rfl⟩
  obtain ⟨w1, w2, va, vb, f1, f2, h⟩ := near_dif ha hb hE hu
  exact ⟨w1, w2, (gap_le f1 f2 h (by omega) (cent_fin hc) (pow_c (a := 52) (by omega) (by decide))).1⟩
theorem gap_twen {a b : Nat} {X : Int} {E F : Nat} (ha : nearP a X E) (hb : nearP b X F) (hE : E + F ≤ 2 ^ 59) : okW a ∧ okW b ∧ fcmp .leq .f64 (gbF (wd a) (wd b)) 4587366580439587226 = true := by
  obtain ⟨u, hu⟩ : ∃ u, u = 59 + 1010 := ⟨_, rfl⟩
  obtain ⟨c, hc⟩ : ∃ c, c = 1017 := ⟨_, rfl⟩
  obtain ⟨w1, w2, va, vb, f1, f2, h⟩ := near_dif ha hb hE hu
  exact ⟨w1, w2, (gap_le f1 f2 h (by omega) (twen_fin hc) (pow_c (a := 52) (by omega) (by decide))).1⟩
/-- Whole numbers as floats. -/
theorem num_near {n : Nat} (hn : n ≤ 16) : nearP (cf .f32 (FloatKind.f32.nearest (n : Int))) ((n : Int) * 18446744073709551616) 0 := by
  have h := nearest_fx .f32 (n := (n : Int)) (show ((n : Int)).natAbs < 2 ^ 24 by rw [Int.natAbs_natCast]; exact Nat.lt_of_le_of_lt hn (by decide))
  refine ⟨_, h, ?_⟩
  have e : (2 : Int) ^ (-lp .f32).toNat = 18446744073709551616 * 2 ^ 85 := by decide
  rw [e, ← Int.mul_assoc, Int.sub_self]
  exact Nat.zero_le _
theorem num_fin {n N : Nat} (hn : n ≤ 16) (hN : N = 1074) : Fl.fin .f64 (cf .f64 (FloatKind.f64.nearest (n : Int))) ((n : Int) * 2 ^ N) := by
  have h := nearest_fx .f64 (n := (n : Int)) (show ((n : Int)).natAbs < 2 ^ 53 by rw [Int.natAbs_natCast]; exact Nat.lt_of_le_of_lt hn (by decide))
  have e : (-lp .f64).toNat = N := by rw [hN]; decide
  rw [e] at h
  exact h
/-! ### Powers -/
theorem pwV {c : CB} {va vb : Int} {k m : Nat} (hm : m = 776) (ha : Fl.fin .f32 c.a va) (hb : Fl.fin .f32 c.b vb) (h1 : va.natAbs ≤ 2 ^ k) (h2 : vb.natAbs ≤ 2 ^ k) (hk : k ≤ 200) : okC c ∧ ∃ p, Fl.fin .f64 (pwF c) p ∧ 0 ≤ p ∧ (p - (va * va + vb * vb) * 2 ^ m).natAbs ≤ 2 ^ (m + (k + k) - 51) := by
  obtain ⟨D, hD⟩ : ∃ D, D = 925 := ⟨_, rfl⟩
  have okc : okC c := ⟨okW_fin ha, okW_fin hb⟩
  refine ⟨okc, ?_⟩
  have wa := wd_fin ha
  have wb := wd_fin hb
  rw [← hD] at wa wb
  have hN : (-lp .f64).toNat = 1074 := by decide
  have hf : FloatKind.f64.format.fractionBits = 52 := rfl
  obtain ⟨w, hw⟩ : ∃ w, w + 53 = m + (k + k) := ⟨m + (k + k) - 53, by omega⟩
  have one : ∀ {x : Nat} {v : Int}, Fl.fin .f64 x (v * 2 ^ D) → v.natAbs ≤ 2 ^ k → ∃ p, Fl.fin .f64 (farith .mul .f64 x x) p ∧ 0 ≤ p ∧ p.natAbs ≤ 2 ^ (m + (k + k)) ∧ (p - v * v * 2 ^ m).natAbs ≤ 2 ^ w := by
    intro x v hx hv
    have e0 : v * 2 ^ D * (v * 2 ^ D) = v * v * 2 ^ (D + D) := by rw [Int.pow_add]; simp only [Int.mul_assoc, Int.mul_left_comm]
    obtain ⟨p, q1, q2, q3⟩ := mul_err (u := m + (k + k)) hx hx (by
      rw [e0, abs_mul_pow, Int.natAbs_mul]
      exact mul_pow_le (n := m + (k + k) + (-lp .f64).toNat) (b := k + k) (m := D + D) (by rw [Nat.pow_add]; exact Nat.mul_le_mul hv hv) (by rw [hN]; omega)) (by rw [mx64]; omega)
    have bx : bd .f64 (k + D) x := ⟨_, hx, by rw [abs_mul_pow]; exact mul_pow_le hv rfl⟩
    obtain ⟨p', r1, r2, _⟩ := sq_nn (t := m + (k + k)) bx (by rw [lp64]; omega) (by rw [mx64]; omega)
    have := fin_uniq q1 r1
    subst this
    refine ⟨p, q1, r2, q2, ?_⟩
    rw [hf] at q3
    have e : v * 2 ^ D * (v * 2 ^ D) = v * v * 2 ^ D * 2 ^ D := by simp only [Int.mul_assoc, Int.mul_left_comm]
    rw [e, show m + (k + k) - 52 = w + 1 by omega] at q3
    have := prod_core (m := m) (B := 0) (R := v * v) (by rw [hN]; omega) q3 (by rw [Int.sub_self]; exact Nat.le_refl _)
    rw [Nat.zero_mul, Nat.add_zero] at this
    exact this
  obtain ⟨p1, f1, n1, l1, g1⟩ := one wa h1
  obtain ⟨p2, f2, n2, l2, g2⟩ := one wb h2
  obtain ⟨p', r1, r2, _⟩ := add_nn f1 f2 n1 n2 l1 l2 (by rw [mx64]; omega)
  obtain ⟨p, s1, s2, s3⟩ := add_err (u := m + (k + k) + 1) f1 f2 (Nat.le_trans (Int.natAbs_add_le _ _) (by rw [Nat.pow_succ]; omega)) (by rw [mx64]; omega)
  have := fin_uniq s1 r1
  subst this
  refine ⟨p, s1, r2, ?_⟩
  rw [hf, show m + (k + k) + 1 - 52 = (w + 1) + 1 by omega] at s3
  have t := abs_tri (half_le s3) (abs_add2 g1 g2)
  rw [← Int.add_mul] at t
  rw [show m + (k + k) - 51 = w + 1 + 1 by omega, Nat.pow_succ]
  rw [Nat.pow_succ] at t ⊢
  omega
theorem sq_dif {v x : Int} {d : Nat} (h : (v - x).natAbs ≤ d) : (v * v - x * x).natAbs ≤ 2 * (x.natAbs * d) + d * d := by
  have e : v * v - x * x = 2 * (x * (v - x)) + (v - x) * (v - x) := by grind
  rw [e]
  refine Nat.le_trans (Int.natAbs_add_le _ _) (Nat.add_le_add ?_ ?_)
  · rw [Int.natAbs_mul, Int.natAbs_mul]
    exact Nat.mul_le_mul_left _ (Nat.mul_le_mul_left _ h)
  · rw [Int.natAbs_mul]
    exact Nat.mul_le_mul h h
/-- The squares of floats near to a pair. -/
theorem sq_near {va vb X Y : Int} {E M j : Nat} (hj : j = 170) (h1 : (va - X * 2 ^ 85).natAbs ≤ E * 2 ^ 85) (h2 : (vb - Y * 2 ^ 85).natAbs ≤ E * 2 ^ 85) (hM : X.natAbs + Y.natAbs ≤ M) : (va * va + vb * vb - (X * X + Y * Y) * 2 ^ j).natAbs ≤ (2 * (M * E) + 2 * (E * E)) * 2 ^ j := by
  have a := sq_dif h1
  have b := sq_dif h2
  have e : ∀ z : Int, z * 2 ^ 85 * (z * 2 ^ 85) = z * z * 2 ^ j := fun z => by
    rw [pow_split2 (show j = 85 + 85 by omega)]
    simp only [Int.mul_assoc, Int.mul_left_comm]
  rw [e] at a b
  have f : ∀ z : Nat, 2 * (z * 2 ^ 85 * (E * 2 ^ 85)) + E * 2 ^ 85 * (E * 2 ^ 85) = (2 * (z * E) + E * E) * 2 ^ j := fun z => by
    rw [show (2 : Nat) ^ j = 2 ^ 85 * 2 ^ 85 by rw [← Nat.pow_add, show j = 85 + 85 by omega]]
    generalize (2 : Nat) ^ 85 = w
    grind
  rw [abs_mul_pow, f] at a b
  have c := abs_add2 a b
  rw [← Int.add_mul, ← Nat.add_mul] at c
  refine Nat.le_trans c (Nat.mul_le_mul_right _ ?_)
  have : X.natAbs * E + Y.natAbs * E ≤ M * E := by rw [← Nat.add_mul]; exact Nat.mul_le_mul_right _ hM
  omega
theorem pw_nearG {c : CB} {Z : Gi} {E M κ L : Nat} (hL : L = 946) (h : nearG c Z E) (hM : Z.nm ≤ M) (hk : M + E ≤ 2 ^ κ) (h40 : 40 ≤ κ) (h75 : κ ≤ 100) : okC c ∧ ∃ p, Fl.fin .f64 (pwF c) p ∧ 0 ≤ p ∧ (p - sqG Z * 2 ^ L).natAbs ≤ (2 * (M * E) + 2 * (E * E) + 2 ^ (κ + κ - 51)) * 2 ^ L := by
  obtain ⟨m, hm⟩ : ∃ m, m = 776 := ⟨_, rfl⟩
  obtain ⟨j, hj⟩ : ∃ j, j = 170 := ⟨_, rfl⟩
  obtain ⟨⟨va, h1, h2⟩, vb, h3, h4⟩ := h
  have hM' := hM
  unfold nm at hM'
  have ba := near_absG (M := 0) (k := κ) h2 (by omega)
  have bb := near_absG (M := 0) (k := κ) h4 (by omega)
  obtain ⟨ok, p, q1, q2, q3⟩ := pwV hm h1 h3 ba bb (by omega)
  refine ⟨ok, p, q1, q2, ?_⟩
  have s := sq_near hj h2 h4 hM'
  have s2 : ((va * va + vb * vb) * 2 ^ m - sqG Z * 2 ^ L).natAbs ≤ (2 * (M * E) + 2 * (E * E)) * 2 ^ L := by
    have e : (va * va + vb * vb) * 2 ^ m - sqG Z * 2 ^ L = (va * va + vb * vb - sqG Z * 2 ^ j) * 2 ^ m := by
      rw [Int.sub_mul, Int.mul_assoc (sqG Z), ← Int.pow_add, show j + m = L by omega]
    rw [e, abs_mul_pow, show L = j + m by omega, Nat.pow_add, ← Nat.mul_assoc]
    exact Nat.mul_le_mul_right _ s
  have t := abs_tri q3 s2
  rw [show m + (κ + 85 + (κ + 85)) - 51 = (κ + κ - 51) + L by omega, Nat.pow_add, ← Nat.add_mul, Nat.add_comm] at t
  exact t
/-- A wide float, narrowed: in units of its power. -/
theorem nr_err {b j D L B : Nat} {p T : Int} (hD : D = 925) (hL : L = 946) (hj : 24 ≤ j) (hj2 : j ≤ 250) (hb : Fl.fin .f64 b p) (h : (p - T * 2 ^ L).natAbs ≤ B * 2 ^ L) (hT : T.natAbs + B ≤ 2 ^ j) : okN b ∧ ∃ w, Fl.fin .f32 (nr b) w ∧ (w * 2 ^ D - T * 2 ^ L).natAbs ≤ (B + 2 ^ (j - 24)) * 2 ^ L := by
  have hsb : p.natAbs ≤ 2 ^ (j + 21 + D) := by
    refine abs_sum h (q := T.natAbs * 2 ^ L) (by rw [abs_mul_pow]; exact Nat.le_refl _) ?_
    rw [← Nat.add_mul, show j + 21 + D = j + L by omega, Nat.pow_add]
    exact Nat.mul_le_mul_right _ (by omega)
  rw [hD] at hsb
  obtain ⟨r, w, h1, h2, h3, h4⟩ := narrow_err (u := j + 21) hb hsb (by omega)
  obtain ⟨k1, k2⟩ := okN_of h1
  rw [← hD] at h4
  refine ⟨k1, w, by rw [k2]; exact h2, ?_⟩
  rw [show D + (j + 21 - 23) = ((j - 24) + L) + 1 by omega] at h4
  have t := abs_tri (half_le h4) h
  rw [Nat.pow_add, ← Nat.add_mul, Nat.add_comm] at t
  exact t
/-- The gap of two powers that are near. -/
theorem gap_half {c d : CB} {Z W : Gi} {T : Int} (hc : nearG c Z (2 ^ 52)) (hd : nearG d W (2 ^ 52)) (h1 : Z.nm ≤ 2 ^ 71) (h2 : W.nm ≤ 2 ^ 71) (h : (sqG Z - sqG W).natAbs ≤ 2 ^ 117) : okC c ∧ okC d ∧ okN (pwF c) ∧ okN (pwF d) ∧ okW (nr (pwF c)) ∧ okW (nr (pwF d)) ∧ fcmp .lss .f64 4602678819172646912 (gbF (wd (nr (pwF c))) (wd (nr (pwF d)))) = false := by
  obtain ⟨L, hL⟩ : ∃ L, L = 946 := ⟨_, rfl⟩
  obtain ⟨D, hD⟩ : ∃ D, D = 925 := ⟨_, rfl⟩
  obtain ⟨u, hu⟩ : ∃ u, u = 126 + 946 := ⟨_, rfl⟩
  obtain ⟨e, he⟩ : ∃ e, e = 1021 := ⟨_, rfl⟩
  have sq : ∀ {Z : Gi}, Z.nm ≤ 2 ^ 71 → (sqG Z).natAbs ≤ 2 ^ 142 := fun {Z} hZ => by
    have q : (sqG Z).natAbs ≤ Z.nm * Z.nm := by
      unfold sqG nm
      refine Nat.le_trans (Int.natAbs_add_le _ _) ?_
      rw [Int.natAbs_mul, Int.natAbs_mul]
      generalize Z.x.natAbs = a
      generalize Z.y.natAbs = b
      have : (a + b) * (a + b) = a * a + b * b + 2 * (a * b) := by grind
      omega
    exact Nat.le_trans q (Nat.le_trans (Nat.mul_le_mul hZ hZ) (by decide))
  obtain ⟨c1, p1, f1, _, g1⟩ := pw_nearG (κ := 72) hL hc h1 (by decide) (by decide) (by decide)
  obtain ⟨c2, p2, f2, _, g2⟩ := pw_nearG (κ := 72) hL hd h2 (by decide) (by decide) (by decide)
  have b0 : 2 * (2 ^ 71 * 2 ^ 52) + 2 * (2 ^ 52 * 2 ^ 52) + 2 ^ (72 + 72 - 51) ≤ 2 ^ 124 + 2 ^ 106 := by decide
  have g1' := Nat.le_trans g1 (Nat.mul_le_mul_right _ b0)
  have g2' := Nat.le_trans g2 (Nat.mul_le_mul_right _ b0)
  obtain ⟨k1, w1, q1, r1⟩ := nr_err (j := 143) hD hL (by decide) (by decide) f1 g1' (Nat.le_trans (Nat.add_le_add_right (sq h1) _) (by decide))
  obtain ⟨k2, w2, q2, r2⟩ := nr_err (j := 143) hD hL (by decide) (by decide) f2 g2' (Nat.le_trans (Nat.add_le_add_right (sq h2) _) (by decide))
  have x1 := wd_fin q1
  have x2 := wd_fin q2
  rw [← hD] at x1 x2
  refine ⟨c1, c2, k1, k2, okW_fin q1, okW_fin q2, (gap_le x1 x2 (u := u) ?_ (by omega) (hal_fin he) (pow_c (a := 51) (by omega) (by decide))).2⟩
  have r2' : (sqG W * 2 ^ L - w2 * 2 ^ D).natAbs ≤ (2 ^ 124 + 2 ^ 106 + 2 ^ (143 - 24)) * 2 ^ L := by rw [← Int.natAbs_neg, Int.neg_sub]; exact r2
  have r3 : (sqG Z * 2 ^ L - sqG W * 2 ^ L).natAbs ≤ 2 ^ 117 * 2 ^ L := by rw [← Int.sub_mul, abs_mul_pow]; exact Nat.mul_le_mul_right _ h
  have t := abs_tri (abs_tri r1 r3) r2'
  rw [← Nat.add_mul, ← Nat.add_mul] at t
  refine Nat.le_trans t ?_
  rw [show u = 126 + L by omega, Nat.pow_add]
  exact Nat.mul_le_mul_right _ (by decide)
/-! ### Lengths -/
theorem fin_pos {k : FloatKind} {b : Nat} {v : Int} (h : Fl.fin k b v) (h0 : 0 < v) : ∃ m e : Nat, k.decode b = .number false m (lp k + e) ∧ v = ((m * 2 ^ e : Nat) : Int) ∧ m ≠ 0 := by
  obtain ⟨s, m, e, hd, rfl⟩ := h
  have hp := Fl.pow_pos e
  cases s with
  | true =>
    exfalso
    have : sg true m ≤ 0 := by simp [sg]
    have := Int.mul_nonpos_of_nonpos_of_nonneg this (Int.le_of_lt hp)
    omega
  | false =>
    refine ⟨m, e, hd, ?_, fun q => ?_⟩
    · show (m : Int) * 2 ^ e = _
      rw [Int.natCast_mul, Int.natCast_pow]; rfl
    · subst q
      have : sg false 0 * 2 ^ e = 0 := Int.zero_mul _
      omega
theorem sq_pos_le {x : Int} {M : Nat} (h : x * x ≤ ((M * M : Nat) : Int)) : x.natAbs ≤ M := by
  rw [← Int.natAbs_mul_self] at h
  exact le_of_sq (Int.ofNat_le.1 h)
theorem long_fin {P q : Nat} {a v y : Int} (r3 : v.natAbs ≤ (P + 72057594037927936 + 524288) * q) (h5 : (a - v).natAbs ≤ 70368744177664 * q) (y4 : (y - (((P * q : Nat) : Int) + ((184467440737095520 * q : Nat) : Int))).natAbs ≤ 65536 * q) : a ≤ y := by
  rw [Nat.add_mul, Nat.add_mul] at r3
  generalize P * q = p at *
  omega
theorem long_le {c : CB} {Z : Gi} {n : Nat} (n1 : 1 ≤ n) (hn : n ≤ 16) (h : nearG c Z (2 ^ 51)) (hs : sqG Z ≤ (n : Int) * ((n : Int) * (340282366920938463463374607431768211456 + 309485009821345068724781056))) : okC c ∧ ∃ r v, FloatKind.f64.format.sqrt (pwF c) = some r ∧ (FloatKind.f64.decode (pwF c)).isNaN = false ∧ Fl.fin .f64 r v ∧ okN r ∧ okW (nr r) ∧ fcmp .lss .f64 (farith .add .f64 (cf .f64 (FloatKind.f64.nearest (n : Int))) 4576918229304087675) (wd (nr r)) = false := by
  obtain ⟨L, hL⟩ : ∃ L, L = 946 := ⟨_, rfl⟩
  obtain ⟨D, hD⟩ : ∃ D, D = 925 := ⟨_, rfl⟩
  obtain ⟨N, hN⟩ : ∃ N, N = 1074 := ⟨_, rfl⟩
  obtain ⟨H, hH⟩ : ∃ H, H = 1010 := ⟨_, rfl⟩
  obtain ⟨M0, hM0⟩ : ∃ M0, M0 = n * (18446744073709551616 + 16777216) := ⟨_, rfl⟩
  have hnn : n * n ≤ 16 * n := Nat.mul_le_mul_right _ hn
  have hbig : ((n : Int) * ((n : Int) * (340282366920938463463374607431768211456 + 309485009821345068724781056))) ≤ ((M0 * M0 : Nat) : Int) := by
    have e : M0 * M0 = n * n * ((18446744073709551616 + 16777216) * (18446744073709551616 + 16777216)) := by rw [hM0]; grind
    have e2 : ((n : Int) * ((n : Int) * (340282366920938463463374607431768211456 + 309485009821345068724781056))) = ((n * n : Nat) : Int) * (340282366920938463463374607431768211456 + 309485009821345068724781056) := by rw [Int.natCast_mul]; grind
    rw [e, e2]
    generalize n * n = q
    omega
  have sx : ∀ {a b : Int}, a * a + b * b = sqG Z → a * a ≤ ((M0 * M0 : Nat) : Int) := fun {a b} e => by
    have : 0 ≤ b * b := by rw [← Int.natAbs_mul_self]; exact Int.natCast_nonneg _
    omega
  have bx := sq_pos_le (sx (a := Z.x) (b := Z.y) rfl)
  have b_y := sq_pos_le (sx (a := Z.y) (b := Z.x) (Int.add_comm _ _))
  have hM : Z.nm ≤ 2 * M0 := by unfold nm; omega
  have hM1 : M0 ≤ 2 ^ 68 + 2 ^ 28 := by rw [hM0]; exact Nat.le_trans (Nat.mul_le_mul_right _ hn) (by decide)
  obtain ⟨okc, p, f1, p0, g1⟩ := pw_nearG (κ := 70) (M := 2 * M0) hL h hM (by
    have e1 : (2 : Nat) ^ 68 = 295147905179352825856 := by decide
    have e2 : (2 : Nat) ^ 28 = 268435456 := by decide
    have e3 : (2 : Nat) ^ 51 = 2251799813685248 := by decide
    have e4 : (2 : Nat) ^ 70 = 1180591620717411303424 := by decide
    omega) (by decide) (by decide)
  obtain ⟨A, hA⟩ : ∃ A, A = n * 18446744073709551616 + 72057594037927936 := ⟨_, rfl⟩
  have hA0 : A ≤ 2 ^ 69 := by
    have e4 : (2 : Nat) ^ 69 = 590295810358705651712 := by decide
    omega
  -- how great the power is
  have hp : p.natAbs ≤ A * A * 2 ^ L := by
    have t := abs_sum g1 (q := (sqG Z).natAbs * 2 ^ L) (r := ((sqG Z).natAbs + (2 * (2 * M0 * 2 ^ 51) + 2 * (2 ^ 51 * 2 ^ 51) + 2 ^ (70 + 70 - 51))) * 2 ^ L) (by rw [abs_mul_pow]; exact Nat.le_refl _) (by rw [Nat.add_mul (sqG Z).natAbs, Nat.add_comm]; exact Nat.le_refl _)
    refine Nat.le_trans t (Nat.mul_le_mul_right _ ?_)
    have e : A * A = n * n * 340282366920938463463374607431768211456 + n * 2658455991569831745807614120560689152 + 5192296858534827628530496329220096 := by rw [hA]; grind
    have s1 : 0 ≤ sqG Z := by
      unfold sqG
      have a1 : 0 ≤ Z.x * Z.x := by rw [← Int.natAbs_mul_self]; exact Int.natCast_nonneg _
      have a2 : 0 ≤ Z.y * Z.y := by rw [← Int.natAbs_mul_self]; exact Int.natCast_nonneg _
      omega
    have e2 : ((n : Int) * ((n : Int) * (340282366920938463463374607431768211456 + 309485009821345068724781056))) = ((n * n : Nat) : Int) * (340282366920938463463374607431768211456 + 309485009821345068724781056) := by rw [Int.natCast_mul]; grind
    rw [e2] at hs
    have k1 : 2 * (2 * M0 * 2 ^ 51) + 2 * (2 ^ 51 * 2 ^ 51) + 2 ^ (70 + 70 - 51) = M0 * 9007199254740992 + 10141204801825835211973625643008 + 618970019642690137449562112 := by
      omega
    rw [k1, e]
    generalize n * n = q at *
    omega
  -- the root
  obtain ⟨s, m, e, hd, hv⟩ := id f1
  have hsn : m ≠ 0 → s = false := fun hm => by
    cases s with
    | false => rfl
    | true =>
      exfalso
      have hp := Fl.pow_pos e
      have : sg true m < 0 := by simp [sg]; omega
      have := Int.mul_neg_of_neg_of_pos this hp
      omega
  have hpm : p.natAbs = m * 2 ^ e := by rw [hv, abs_mul_pow, sg_abs]
  have hY : m * 2 ^ (e + 1074) ≤ A * 2 ^ H * (A * 2 ^ H) := by
    rw [← hN, Nat.pow_add, ← Nat.mul_assoc, ← hpm]
    refine Nat.le_trans (Nat.mul_le_mul_right _ hp) ?_
    rw [Nat.mul_mul_mul_comm, Nat.mul_assoc (A * A), ← Nat.pow_add, ← Nat.pow_add, show L + N = H + H by omega]
    exact Nat.le_refl _
  obtain ⟨t, ht⟩ : ∃ t, t = 69 + H := ⟨_, rfl⟩
  obtain ⟨r, v, r1, r2, r3⟩ := sqrt_up hd hsn hY (t := t) (by rw [ht, Nat.pow_add]; exact Nat.mul_le_mul_right _ hA0) (by omega) (by omega)
  rw [show t - 50 = 19 + H by omega, Nat.pow_add, ← Nat.add_mul] at r3
  obtain ⟨r', w, h1, h2, h3, h4⟩ := narrow_err (u := 155) r2 (by
    refine Nat.le_trans r3 ?_
    rw [← hD, show 155 + D = 70 + H by omega, Nat.pow_add]
    refine Nat.mul_le_mul_right _ (Nat.le_trans (Nat.add_le_add_right hA0 _) (by decide))) (by decide)
  obtain ⟨k1, k2⟩ := okN_of h1
  rw [← k2] at h2
  rw [← hD, show D + (155 - 23) = (46 + H) + 1 by omega] at h4
  have h5 := half_le h4
  have wdr := wd_fin h2
  rw [← hD] at wdr
  refine ⟨okc, r, v, r1, f1.notNaN, r2, k1, okW_fin h2, ?_⟩
  -- the other side
  obtain ⟨c15, hc15⟩ : ∃ c, c = 1015 := ⟨_, rfl⟩
  have q1 := num_fin hn hN
  have q2 := cent_fin hc15
  have z1 : (n : Int) * 2 ^ N = ((n * 18446744073709551616 * 2 ^ H : Nat) : Int) := by
    rw [show N = 64 + H by omega, Int.pow_add, Int.natCast_mul, Int.natCast_mul, Int.natCast_pow, Int.mul_assoc]; rfl
  have z2 : ((5764607523034235 : Nat) : Int) * 2 ^ c15 = ((184467440737095520 * 2 ^ H : Nat) : Int) := by
    rw [show c15 = 5 + H by omega, Int.pow_add, Int.natCast_mul, Int.natCast_pow, ← Int.mul_assoc]; rfl
  rw [z1] at q1
  rw [z2] at q2
  obtain ⟨y, y1, y2, y3⟩ := add_err (u := 69 + H) q1 q2 (by
    rw [← Int.natCast_add, Int.natAbs_natCast, ← Nat.add_mul, Nat.pow_add]
    refine Nat.mul_le_mul_right _ ?_
    have e4 : (2 : Nat) ^ 69 = 590295810358705651712 := by decide
    omega) (by rw [mx64]; omega)
  have hf : FloatKind.f64.format.fractionBits = 52 := rfl
  rw [hf, show 69 + H - 52 = (16 + H) + 1 by omega] at y3
  have y4 := half_le y3
  refine cmp_gt wdr y1 ?_
  rw [Nat.pow_add] at h5 y4
  have e16 : (2 : Nat) ^ 16 = 65536 := by decide
  have e46 : (2 : Nat) ^ 46 = 70368744177664 := by decide
  have e19 : (2 : Nat) ^ 19 = 524288 := by decide
  rw [e46] at h5
  rw [e16] at y4
  rw [e19, hA] at r3
  exact long_fin r3 h5 y4
/-! ### Gains -/
theorem PH_pow {s : Int} {L : Nat} (hL : L = 946) (hs : s.natAbs < 2 ^ 27) : okC (PH s) ∧ ∃ p, Fl.fin .f64 (pwF (PH s)) p ∧ (p - ((340282366920938463463374607431768211456 : Nat) : Int) * 2 ^ L).natAbs ≤ 2 ^ 107 * 2 ^ L := by
  obtain ⟨ok, p, h1, _, h2⟩ := pw_nearG (κ := 65) hL (PH_q hs) (qG_nm s) (by decide) (by decide) (by decide)
  refine ⟨ok, p, h1, ?_⟩
  have r := qG_sq s
  unfold nm at r
  have e : (qG s * (qG s).cj - Qi * Qi).x = sqG (qG s) - ((340282366920938463463374607431768211456 : Nat) : Int) := by
    rw [sub_x, mul_x, QQ, of_x, cj_x, cj_y]
    unfold sqG
    grind
  rw [e] at r
  have r2 : (sqG (qG s) * 2 ^ L - ((340282366920938463463374607431768211456 : Nat) : Int) * 2 ^ L).natAbs ≤ 2 ^ 86 * 2 ^ L := by
    rw [← Int.sub_mul, abs_mul_pow]
    exact Nat.mul_le_mul_right _ (by omega)
  have t := abs_tri h2 r2
  rw [← Nat.add_mul] at t
  exact Nat.le_trans t (Nat.mul_le_mul_right _ (by decide))
theorem pwS_near {f : Nat → CB} {L K : Nat} (hL : L = 946) (hK : K = 340282366920938463463374607431768211456) : ∀ {n : Nat}, n ≤ 16 → (∀ i, i < n → ∃ p, Fl.fin .f64 (pwF (f i)) p ∧ (p - (K : Int) * 2 ^ L).natAbs ≤ 2 ^ 107 * 2 ^ L) → ∃ s, Fl.fin .f64 (pwS f n) s ∧ (s - ((n * K : Nat) : Int) * 2 ^ L).natAbs ≤ n * (2 ^ 107 + 2 ^ 80) * 2 ^ L
  | 0, _, _ => ⟨0, zero_fin64, by rw [Nat.zero_mul]; simp⟩
  | n + 1, hn, h => by
    obtain ⟨s, h1, h2⟩ := pwS_near hL hK (n := n) (by omega) (fun i hi => h i (Nat.lt_succ_of_lt hi))
    obtain ⟨p, h3, h4⟩ := h n (Nat.lt_succ_self n)
    have h5 := abs_add2 h2 h4
    rw [← Int.add_mul, ← Nat.add_mul, ← Int.natCast_add] at h5
    have e1 : n * K + K = (n + 1) * K := by rw [Nat.add_mul, Nat.one_mul]
    rw [e1] at h5
    have b1 : (n + 1) * K ≤ 2 ^ 132 := by rw [hK]; exact Nat.le_trans (Nat.mul_le_mul_right _ hn) (by decide)
    have b2 : n * (2 ^ 107 + 2 ^ 80) + 2 ^ 107 ≤ 2 ^ 112 := Nat.le_trans (Nat.add_le_add_right (Nat.mul_le_mul_right _ (show n ≤ 15 by omega)) _) (by decide)
    have hs : (s + p).natAbs ≤ 2 ^ (133 + L) := by
      refine abs_sum h5 (q := (n + 1) * K * 2 ^ L) (by rw [abs_mul_pow, Int.natAbs_natCast]; exact Nat.le_refl _) ?_
      rw [← Nat.add_mul, Nat.pow_add]
      exact Nat.mul_le_mul_right _ (Nat.le_trans (Nat.add_le_add b2 b1) (by decide))
    obtain ⟨y, y1, _, y3⟩ := add_err h1 h3 hs (by rw [mx64]; omega)
    have hf : FloatKind.f64.format.fractionBits = 52 := rfl
    rw [hf, show 133 + L - 52 = (80 + L) + 1 by omega] at y3
    have y4 := abs_tri (half_le y3) h5
    rw [Nat.pow_add, ← Nat.add_mul] at y4
    refine ⟨y, y1, Nat.le_trans y4 (Nat.mul_le_mul_right _ ?_)⟩
    rw [Nat.add_mul n 1, Nat.one_mul]
    clear hs y1 y3 y4 b1 b2 h5 h4 h3 h2 h1 h
    generalize (2 : Nat) ^ 107 = a
    generalize (2 : Nat) ^ 80 = b
    generalize n * (a + b) = c
    omega
theorem div_D {w T : Int} {D L B : Nat} (hL : L = 21 + D) (h : (w * 2 ^ D - T * 2 ^ L).natAbs ≤ B * 2 ^ L) : (w - T * 2097152).natAbs ≤ B * 2097152 := by
  have e : w * 2 ^ D - T * 2 ^ L = (w - T * 2097152) * 2 ^ D := by
    rw [Int.sub_mul, hL, Int.pow_add, ← Int.mul_assoc]; rfl
  rw [e, abs_mul_pow, hL, Nat.pow_add, ← Nat.mul_assoc] at h
  exact Nat.le_of_mul_le_mul_right h (Nat.two_pow_pos D)
/-- The last step: whole numbers. -/
theorem gain_fin {v w1 ws : Int} {n A B Q : Nat} (n1 : 1 ≤ n) (hn : n ≤ 16) (hQ : Q = 2 ^ 149) (h1 : (w1 - ((n * n * Q : Nat) : Int)).natAbs ≤ A) (h2 : (ws - ((n * Q : Nat) : Int)).natAbs ≤ B) (hA : A ≤ 2 ^ 140 + 2 ^ 136) (hB : B ≤ 2 ^ 133) (hq : (v * ws - w1 * (Q : Int)).natAbs ≤ 2 * (ws.natAbs * 2 ^ 131)) (h0 : 0 < ws) : (v - ((n * Q : Nat) : Int)).natAbs ≤ 2 ^ 142 := by
  have hws : 2 ^ 149 ≤ ws.natAbs + 2 ^ 133 := by
    have : Q ≤ n * Q := Nat.le_mul_of_pos_left Q n1
    omega
  have id : (v - ((n * Q : Nat) : Int)) * ws = (v * ws - w1 * (Q : Int)) + ((w1 - ((n * n * Q : Nat) : Int)) - (n : Int) * (ws - ((n * Q : Nat) : Int))) * (Q : Int) := by
    simp only [Int.natCast_mul]
    grind
  have b1 : ((n : Int) * (ws - ((n * Q : Nat) : Int))).natAbs ≤ 16 * B := by
    rw [Int.natAbs_mul, Int.natAbs_natCast]
    exact Nat.mul_le_mul hn h2
  have b2 : ((w1 - ((n * n * Q : Nat) : Int)) - (n : Int) * (ws - ((n * Q : Nat) : Int))).natAbs ≤ A + 16 * B := by
    refine Nat.le_trans (Int.natAbs_sub_le _ _) (Nat.add_le_add h1 b1)
  have b3 : ((v - ((n * Q : Nat) : Int)) * ws).natAbs ≤ 2 * (ws.natAbs * 2 ^ 131) + (A + 16 * B) * Q := by
    rw [id]
    refine Nat.le_trans (Int.natAbs_add_le _ _) (Nat.add_le_add hq ?_)
    rw [Int.natAbs_mul, Int.natAbs_natCast]
    exact Nat.mul_le_mul_right _ b2
  rw [Int.natAbs_mul] at b3
  have b4 : (A + 16 * B) * Q ≤ 2 ^ 141 * ws.natAbs := by
    have c1 : (A + 16 * B) * Q ≤ (2 ^ 140 + 2 ^ 138) * Q := Nat.mul_le_mul_right _ (by omega)
    have c2 : (2 ^ 140 + 2 ^ 138) * Q ≤ 2 ^ 141 * (2 ^ 149 - 2 ^ 133) := by rw [hQ]; decide
    exact Nat.le_trans c1 (Nat.le_trans c2 (Nat.mul_le_mul_left _ (by omega)))
  have hpos : 0 < ws.natAbs := by omega
  refine Nat.le_of_mul_le_mul_right (Nat.le_trans b3 ?_) hpos
  have b5 := Nat.add_le_add_left b4 (2 * (ws.natAbs * 2 ^ 131))
  refine Nat.le_trans b5 ?_
  have e1 : 2 * (ws.natAbs * 2 ^ 131) + 2 ^ 141 * ws.natAbs = (2 ^ 132 + 2 ^ 141) * ws.natAbs := by
    generalize ws.natAbs = z
    omega
  rw [e1]
  exact Nat.mul_le_mul_right _ (by decide)
theorem gain_near {c : CB} {f : Nat → CB} {n : Nat} (n1 : 1 ≤ n) (hn : n ≤ 16) (hc : nearG c (of ((n : Int) * 18446744073709551616)) (2 ^ 50)) (hf : ∀ i, i < n → ∃ s : Int, s.natAbs < 2 ^ 27 ∧ f i = PH s) : (∀ i, i < n → okC (f i)) ∧ okN (pwS f n) ∧ okC c ∧ okN (pwF c) ∧ nearP (farith .quo .f32 (nr (pwF c)) (nr (pwS f n))) ((n : Int) * 18446744073709551616) (2 ^ 57) := by
  obtain ⟨L, hL⟩ : ∃ L, L = 946 := ⟨_, rfl⟩
  obtain ⟨D, hD⟩ : ∃ D, D = 925 := ⟨_, rfl⟩
  obtain ⟨K, hK⟩ : ∃ K, K = 340282366920938463463374607431768211456 := ⟨_, rfl⟩
  have ok : ∀ i, i < n → okC (f i) := fun i hi => by
    obtain ⟨s, s1, s2⟩ := hf i hi
    rw [s2]; exact (PH_pow hL s1).1
  have hnn : n * n ≤ 16 * 16 := Nat.mul_le_mul hn hn
  obtain ⟨okc, p, p1, p0, p2⟩ := pw_nearG (κ := 69) (M := n * 18446744073709551616) hL hc (by rw [nm_of, Int.natAbs_mul]; exact Nat.le_refl _) (Nat.le_trans (Nat.add_le_add_right (Nat.mul_le_mul_right _ hn) _) (by decide)) (by decide) (by decide)
  have eS : sqG (of ((n : Int) * 18446744073709551616)) = ((n * n * K : Nat) : Int) := by
    rw [hK]
    show (n : Int) * 18446744073709551616 * ((n : Int) * 18446744073709551616) + 0 * 0 = _
    simp only [Int.natCast_mul]
    grind
  rw [eS] at p2
  have p3 := Nat.le_trans p2 (Nat.mul_le_mul_right _ (show 2 * (n * 18446744073709551616 * 2 ^ 50) + 2 * (2 ^ 50 * 2 ^ 50) + 2 ^ (69 + 69 - 51) ≤ 2 ^ 119 + 2 ^ 102 from Nat.le_trans (Nat.add_le_add_right (Nat.add_le_add_right (Nat.mul_le_mul_left _ (Nat.mul_le_mul_right _ (Nat.mul_le_mul_right _ hn))) _) _) (by decide)))
  obtain ⟨k1, w1, q1, q2⟩ := nr_err (j := 137) hD hL (by decide) (by decide) p1 p3 (by
    rw [Int.natAbs_natCast, hK]
    exact Nat.le_trans (Nat.add_le_add_right (Nat.mul_le_mul_right _ hnn) _) (by decide))
  obtain ⟨s, s1, s2⟩ := pwS_near (f := f) hL hK hn (fun i hi => by
    obtain ⟨t, t1, t2⟩ := hf i hi
    rw [t2, hK]; exact (PH_pow hL t1).2)
  have s3 := Nat.le_trans s2 (Nat.mul_le_mul_right _ (Nat.mul_le_mul_right (2 ^ 107 + 2 ^ 80) hn))
  obtain ⟨k2, ws, r1, r2⟩ := nr_err (j := 133) hD hL (by decide) (by decide) s1 s3 (by
    rw [Int.natAbs_natCast, hK]
    exact Nat.le_trans (Nat.add_le_add_right (Nat.mul_le_mul_right _ hn) _) (by decide))
  refine ⟨ok, k2, okc, k1, ?_⟩
  have d1 := div_D (by omega) q2
  have d2 := div_D (by omega) r2
  obtain ⟨Q, hQ⟩ : ∃ Q, Q = 2 ^ 149 := ⟨_, rfl⟩
  have eQ : K * 2097152 = Q := by rw [hK, hQ]
  have e1 : ((n * n * K : Nat) : Int) * 2097152 = ((n * n * Q : Nat) : Int) := by rw [← eQ, ← Nat.mul_assoc, Int.natCast_mul (n * n * K)]; rfl
  have e2 : ((n * K : Nat) : Int) * 2097152 = ((n * Q : Nat) : Int) := by rw [← eQ, ← Nat.mul_assoc, Int.natCast_mul (n * K)]; rfl
  rw [e1] at d1
  rw [e2] at d2
  have hA : (2 ^ 119 + 2 ^ 102 + 2 ^ (137 - 24)) * 2097152 ≤ 2 ^ 140 + 2 ^ 136 := by decide
  have hB : (16 * (2 ^ 107 + 2 ^ 80) + 2 ^ (133 - 24)) * 2097152 ≤ 2 ^ 133 := by decide
  have nQ : Q ≤ n * Q := Nat.le_mul_of_pos_left Q n1
  have nQ2 : n * Q ≤ 16 * Q := Nat.mul_le_mul_right _ hn
  have nnQ : n * n * Q ≤ 16 * (n * Q) := by rw [← Nat.mul_assoc]; exact Nat.mul_le_mul_right _ (Nat.mul_le_mul_right _ hn)
  have nnQ1 : n * Q ≤ n * n * Q := Nat.mul_le_mul_right _ (Nat.le_mul_of_pos_left n n1)
  have hw1 : 0 < w1 := by omega
  have hws : 0 < ws := by omega
  obtain ⟨m1, x1, y1, z1, u1⟩ := fin_pos q1 hw1
  obtain ⟨m2, x2, y2, z2, u2⟩ := fin_pos r1 hws
  have eW : m1 * 2 ^ (x1 + 149) = w1.natAbs * Q := by rw [z1, Int.natAbs_natCast, hQ, Nat.pow_add, Nat.mul_assoc]
  have eV : m2 * 2 ^ x2 = ws.natAbs := by rw [z2, Int.natAbs_natCast]
  obtain ⟨v, v1, v2⟩ := quo_err (u := 154) (L := 149) (k := .f32) (by decide) y1 y2 u1 u2 (by
    rw [eW, eV]
    have a1 : w1.natAbs ≤ 2 ^ 5 * ws.natAbs := by omega
    refine Nat.le_trans (Nat.mul_le_mul_right _ a1) ?_
    rw [hQ, Nat.mul_right_comm]
    exact Nat.mul_le_mul_right _ (by decide)) (by decide) (by decide)
  rw [eW, eV] at v2
  have c1 : ((ws.natAbs : Nat) : Int) = ws := Int.natAbs_of_nonneg (Int.le_of_lt hws)
  have c2 : ((w1.natAbs * Q : Nat) : Int) = w1 * (Q : Int) := by rw [Int.natCast_mul, Int.natAbs_of_nonneg (Int.le_of_lt hw1)]
  rw [c1, c2] at v2
  have g := gain_fin n1 hn hQ d1 d2 hA hB v2 hws
  refine ⟨v, v1, ?_⟩
  have e5 : (n : Int) * 18446744073709551616 * 2 ^ 85 = ((n * Q : Nat) : Int) := by
    rw [hQ, Int.natCast_mul, Int.mul_assoc]; rfl
  rw [e5]
  exact Nat.le_trans g (by decide)
end Go.Proofs.Ytkhipobafchilaa.Sim

/- What FnPatterns calls, walked. Lemmas only; no condition. -/
set_option linter.unusedSimpArgs false
set_option linter.unusedVariables false
set_option maxRecDepth 8000
namespace Go.Proofs.Ytkhipobafchilaa.Sim
open Go Go.RowKit Fl
variable {ro lo hi n : Nat} {X : Ext} {h : Heap} {x y : Value} {l : List Int} {u v : Int} {f : Nat → CB} {cd : List UInt8}
/-- Places and weights. -/
structure PG (ro : Nat) (h : Heap) (x y : Value) (n : Nat) (l : List Int) (f : Nat → CB) : Prop where
  g : goodP n l
  pl : ∃ lo hi, hi ≤ h.length ∧ IS lo hi 2 h x n l
  ty : tyP ro h x
  w : ∃ lo, RowB lo h y n f
theorem PG.pre {h' : Heap} (k : PG ro h x y n l f) (p : Pfx h h') : PG ro h' x y n l f := by
  obtain ⟨lo, hi, h1, h2⟩ := k.pl
  obtain ⟨lo', h3⟩ := k.w
  have := k.g.n1
  exact ⟨k.g, ⟨lo, hi, Nat.le_trans h1 p.len, h2.pre p⟩, k.ty.pre h2 (by omega) p, ⟨lo', h3.pre p⟩⟩
theorem areG_r (hX : XN X) (k : PG ro h x y n l f) (hro : ro ≤ h.length) : Ret Try.prog ro X 30 [x, y] h (.bool true) := by
  obtain ⟨lo, hi, h1, hI⟩ := k.pl
  obtain ⟨lo', hR⟩ := k.w
  refine ret_of (callR_of (hX _ rfl) Try.func30 rfl (by kernel_rfl) (Nat.le_of_ble_eq_true rfl) ?_)
  (repeat' first | simp -dsimp (disch := first | omega | assumption | (refine OkS.sto ?_ (by omega); first | assumption | (refine OkS.sto ?_ (by omega); first | assumption | (refine OkS.sto ?_ (by omega); first | assumption | (refine OkS.sto ?_ (by omega); first | assumption | (refine OkS.sto ?_ (by omega); first | assumption | (refine OkS.sto ?_ (by omega); first | assumption)))))) | exact Pfx.refl _ | (apply Pfx.snoc; repeat (first | exact Pfx.refl _ | assumption | apply Pfx.snoc)) | with_unfolding_all exact of_eq_true (eq_true rfl) | (simp only [List.length_append, List.length_cons, List.length_nil]; omega)) only [↓wpre0, ↓wpre1, ↓reduceIte, Int.reduceToNat, Nat.reduceAdd, Nat.reduceMul, Nat.reduceEqDiff, wpost0, wpost1, wpost2, wpost3, wpost4, ite_self, ite_true, ite_false, if_true, if_false, xlen29, xlen24, bin_eql, fr30, wrap_int, wrap_u8, iteP_yes, iteP_no, vPlaces_r hX hI k.ty k.g hro, hI.len Try.underlying24, hR.len] | refine iteP_two (fun hc hd => ?_) (fun hc hd => ?_) | refine iteP_intro (fun hc => ?_) (fun hc => ?_))
  rfl
theorem patG_r (hX : XN X) (hA : XAbs X) (k : PG ro h x y n l f) (hd : dirB u v = true) (hok : ∀ i, i < n → okM (cjB (f i)) (PH (stpN l u v i))) (hro : ro ≤ h.length) : Ret Try.prog ro X 31 [x, y, .agg ⟨[.int .i64 u, .int .i64 v]⟩] h (toV (ptF f l n u v)) := by
  have hb : boxV h 27 (.agg ⟨[.int .i64 u, .int .i64 v]⟩) = some (.pointer (some ⟨h.length, 0, none⟩), h ++ [⟨27, [.int .i64 u, .int .i64 v]⟩]) := box_go rfl
  have p0 : Pfx h (h ++ [(⟨27, [.int .i64 u, .int .i64 v]⟩ : Blk)]) := (Pfx.refl h).snoc
  have k0 := k.pre p0
  obtain ⟨lo, hi, h1, hI⟩ := k0.pl
  refine ret_of (callR_of (hX _ rfl) Try.func31 rfl (by kernel_rfl) (Nat.le_of_ble_eq_true rfl) ?_)
  (repeat' first | simp -dsimp (disch := first | omega | assumption | (refine OkS.sto ?_ (by omega); first | assumption | (refine OkS.sto ?_ (by omega); first | assumption | (refine OkS.sto ?_ (by omega); first | assumption | (refine OkS.sto ?_ (by omega); first | assumption | (refine OkS.sto ?_ (by omega); first | assumption | (refine OkS.sto ?_ (by omega); first | assumption)))))) | exact Pfx.refl _ | (apply Pfx.snoc; repeat (first | exact Pfx.refl _ | assumption | apply Pfx.snoc)) | with_unfolding_all exact of_eq_true (eq_true rfl) | (simp only [List.length_append, List.length_cons, List.length_nil]; omega)) only [↓wpre0, ↓wpre1, ↓reduceIte, Int.reduceToNat, Nat.reduceAdd, Nat.reduceMul, Nat.reduceEqDiff, wpost0, wpost1, wpost2, wpost3, wpost4, ite_self, ite_true, ite_false, if_true, if_false, xld27, fr31, wrap_int, wrap_u8, iteP_yes, iteP_no, hb] | refine iteP_two (fun hc hd => ?_) (fun hc hd => ?_) | refine iteP_intro (fun hc => ?_) (fun hc => ?_))
  refine cf_rel (steering_c hX hA hI k.g hd (by simp; omega) h1) (fun q => by cases q) ?_
  rintro z H1 ⟨p1, hZ⟩
  obtain ⟨lo', hR⟩ := (k0.pre p1).w
  have hh := k.g.n16
  have hdot := DotC_r (ro := ro) hX hR hZ (by omega) hok
  have ef : ∀ a b, endH (.complex .f32 a b) h H1 = h := fun a b => endH_flat rfl (p0.trans p1)
  (repeat' first | simp -dsimp (disch := first | omega | assumption | (refine OkS.sto ?_ (by omega); first | assumption | (refine OkS.sto ?_ (by omega); first | assumption | (refine OkS.sto ?_ (by omega); first | assumption | (refine OkS.sto ?_ (by omega); first | assumption | (refine OkS.sto ?_ (by omega); first | assumption | (refine OkS.sto ?_ (by omega); first | assumption)))))) | exact Pfx.refl _ | (apply Pfx.snoc; repeat (first | exact Pfx.refl _ | assumption | apply Pfx.snoc)) | with_unfolding_all exact of_eq_true (eq_true rfl) | (simp only [List.length_append, List.length_cons, List.length_nil]; omega)) only [↓wpre0, ↓wpre1, ↓reduceIte, Int.reduceToNat, Nat.reduceAdd, Nat.reduceMul, Nat.reduceEqDiff, wpost0, wpost1, wpost2, wpost3, wpost4, ite_self, ite_true, ite_false, if_true, if_false, xld27, fr31, wrap_int, wrap_u8, iteP_yes, iteP_no, hdot, ef] | refine iteP_two (fun hc hd => ?_) (fun hc hd => ?_) | refine iteP_intro (fun hc => ?_) (fun hc => ?_))
  rfl
theorem PatG_r (hX : XN X) (hA : XAbs X) (k : PG ro h x y n l f) (hd : dirB u v = true) (hok : ∀ i, i < n → okM (cjB (f i)) (PH (stpN l u v i))) (hro : ro ≤ h.length) : Ret Try.prog ro X 8 [x, y, .agg ⟨[.int .i64 u, .int .i64 v]⟩] h (.tuple ⟨[toV (ptF f l n u v), .bool true]⟩) := by
  have hb : boxV h 27 (.agg ⟨[.int .i64 u, .int .i64 v]⟩) = some (.pointer (some ⟨h.length, 0, none⟩), h ++ [⟨27, [.int .i64 u, .int .i64 v]⟩]) := box_go rfl
  have p0 : Pfx h (h ++ [(⟨27, [.int .i64 u, .int .i64 v]⟩ : Blk)]) := (Pfx.refl h).snoc
  have k0 := k.pre p0
  have hro0 : ro ≤ (h ++ [(⟨27, [.int .i64 u, .int .i64 v]⟩ : Blk)]).length := by simp; omega
  refine ret_of (callR_of (hX _ rfl) Try.func8 rfl (by kernel_rfl) (Nat.le_of_ble_eq_true rfl) ?_)
  (repeat' first | simp -dsimp (disch := first | omega | assumption | (refine OkS.sto ?_ (by omega); first | assumption | (refine OkS.sto ?_ (by omega); first | assumption | (refine OkS.sto ?_ (by omega); first | assumption | (refine OkS.sto ?_ (by omega); first | assumption | (refine OkS.sto ?_ (by omega); first | assumption | (refine OkS.sto ?_ (by omega); first | assumption)))))) | exact Pfx.refl _ | (apply Pfx.snoc; repeat (first | exact Pfx.refl _ | assumption | apply Pfx.snoc)) | with_unfolding_all exact of_eq_true (eq_true rfl) | (simp only [List.length_append, List.length_cons, List.length_nil]; omega)) only [↓wpre0, ↓wpre1, ↓reduceIte, Int.reduceToNat, Nat.reduceAdd, Nat.reduceMul, Nat.reduceEqDiff, wpost0, wpost1, wpost2, wpost3, wpost4, ite_self, ite_true, ite_false, if_true, if_false, un_not, xld27, fr8, wrap_int, wrap_u8, iteP_yes, iteP_no, hb, areG_r hX k0 hro0, vDir_r hX u v _ hro0, hd, patG_r hX hA k0 hd hok hro0] | refine iteP_two (fun hc hd => ?_) (fun hc hd => ?_) | refine iteP_intro (fun hc => ?_) (fun hc => ?_))
theorem narS_r (hX : XN X) {b : Nat} (k : okN b) (h : Heap) : Ret Try.prog ro X 54 [.float .f64 b] h (.float .f32 (nr b)) := by
  refine ret_of (callR_of (hX _ rfl) Try.func54 rfl (by kernel_rfl) (Nat.le_of_ble_eq_true rfl) ?_)
  (repeat' first | simp -dsimp (disch := first | omega | assumption | (refine OkS.sto ?_ (by omega); first | assumption | (refine OkS.sto ?_ (by omega); first | assumption | (refine OkS.sto ?_ (by omega); first | assumption | (refine OkS.sto ?_ (by omega); first | assumption | (refine OkS.sto ?_ (by omega); first | assumption | (refine OkS.sto ?_ (by omega); first | assumption)))))) | exact Pfx.refl _ | (apply Pfx.snoc; repeat (first | exact Pfx.refl _ | assumption | apply Pfx.snoc)) | with_unfolding_all exact of_eq_true (eq_true rfl) | (simp only [List.length_append, List.length_cons, List.length_nil]; omega)) only [↓wpre0, ↓wpre1, ↓reduceIte, Int.reduceToNat, Nat.reduceAdd, Nat.reduceMul, Nat.reduceEqDiff, wpost0, wpost1, wpost2, wpost3, wpost4, ite_self, ite_true, ite_false, if_true, if_false, xcv39_35, fr54, wrap_int, wrap_u8, iteP_yes, iteP_no, cv_n k] | refine iteP_two (fun hc hd => ?_) (fun hc hd => ?_) | refine iteP_intro (fun hc => ?_) (fun hc => ?_))
theorem powS_r (hX : XN X) {c : CB} (k : okC c) (h : Heap) : Ret Try.prog ro X 56 [toV c] h (.float .f64 (pwF c)) := by
  refine ret_of (callR_of (hX _ rfl) Try.func56 rfl (by kernel_rfl) (Nat.le_of_ble_eq_true rfl) ?_)
  (repeat' first | simp -dsimp (disch := first | omega | assumption | (refine OkS.sto ?_ (by omega); first | assumption | (refine OkS.sto ?_ (by omega); first | assumption | (refine OkS.sto ?_ (by omega); first | assumption | (refine OkS.sto ?_ (by omega); first | assumption | (refine OkS.sto ?_ (by omega); first | assumption | (refine OkS.sto ?_ (by omega); first | assumption)))))) | exact Pfx.refl _ | (apply Pfx.snoc; repeat (first | exact Pfx.refl _ | assumption | apply Pfx.snoc)) | with_unfolding_all exact of_eq_true (eq_true rfl) | (simp only [List.length_append, List.length_cons, List.length_nil]; omega)) only [↓wpre0, ↓wpre1, ↓reduceIte, Int.reduceToNat, Nat.reduceAdd, Nat.reduceMul, Nat.reduceEqDiff, wpost0, wpost1, wpost2, wpost3, wpost4, ite_self, ite_true, ite_false, if_true, if_false, blt_real, xcv35_39, blt_imag, bin_fmul, bin_fadd, fr56, wrap_int, wrap_u8, iteP_yes, iteP_no, cv_w k.1, cv_w k.2] | refine iteP_two (fun hc hd => ?_) (fun hc hd => ?_) | refine iteP_intro (fun hc => ?_) (fun hc => ?_))
  rfl
theorem PowerS_r (hX : XN X) {c : CB} (k : okC c) (kn : okN (pwF c)) (h : Heap) : Ret Try.prog ro X 14 [toV c] h (.float .f32 (nr (pwF c))) := by
  have e : Ret Try.prog ro X 36 [toV c] h (.float .f32 (nr (pwF c))) := by
    refine ret_of (callR_of (hX _ rfl) Try.func36 rfl (by kernel_rfl) (Nat.le_of_ble_eq_true rfl) ?_)
    (repeat' first | simp -dsimp (disch := first | omega | assumption | (refine OkS.sto ?_ (by omega); first | assumption | (refine OkS.sto ?_ (by omega); first | assumption | (refine OkS.sto ?_ (by omega); first | assumption | (refine OkS.sto ?_ (by omega); first | assumption | (refine OkS.sto ?_ (by omega); first | assumption | (refine OkS.sto ?_ (by omega); first | assumption)))))) | exact Pfx.refl _ | (apply Pfx.snoc; repeat (first | exact Pfx.refl _ | assumption | apply Pfx.snoc)) | with_unfolding_all exact of_eq_true (eq_true rfl) | (simp only [List.length_append, List.length_cons, List.length_nil]; omega)) only [↓wpre0, ↓wpre1, ↓reduceIte, Int.reduceToNat, Nat.reduceAdd, Nat.reduceMul, Nat.reduceEqDiff, wpost0, wpost1, wpost2, wpost3, wpost4, ite_self, ite_true, ite_false, if_true, if_false, fr36, wrap_int, wrap_u8, iteP_yes, iteP_no, powS_r hX k, narS_r hX kn] | refine iteP_two (fun hc hd => ?_) (fun hc hd => ?_) | refine iteP_intro (fun hc => ?_) (fun hc => ?_))
  refine ret_of (callR_of (hX _ rfl) Try.func14 rfl (by kernel_rfl) (Nat.le_of_ble_eq_true rfl) ?_)
  (repeat' first | simp -dsimp (disch := first | omega | assumption | (refine OkS.sto ?_ (by omega); first | assumption | (refine OkS.sto ?_ (by omega); first | assumption | (refine OkS.sto ?_ (by omega); first | assumption | (refine OkS.sto ?_ (by omega); first | assumption | (refine OkS.sto ?_ (by omega); first | assumption | (refine OkS.sto ?_ (by omega); first | assumption)))))) | exact Pfx.refl _ | (apply Pfx.snoc; repeat (first | exact Pfx.refl _ | assumption | apply Pfx.snoc)) | with_unfolding_all exact of_eq_true (eq_true rfl) | (simp only [List.length_append, List.length_cons, List.length_nil]; omega)) only [↓wpre0, ↓wpre1, ↓reduceIte, Int.reduceToNat, Nat.reduceAdd, Nat.reduceMul, Nat.reduceEqDiff, wpost0, wpost1, wpost2, wpost3, wpost4, ite_self, ite_true, ite_false, if_true, if_false, fr14, wrap_int, wrap_u8, iteP_yes, iteP_no, e] | refine iteP_two (fun hc hd => ?_) (fun hc hd => ?_) | refine iteP_intro (fun hc => ?_) (fun hc => ?_))
theorem LongS_r (hX : XN X) (hS : X 70 = some (ext1 gSqrt)) {c : CB} {r : Nat} {w : Int} (k : okC c) (h1 : FloatKind.f64.format.sqrt (pwF c) = some r) (h2 : (FloatKind.f64.decode (pwF c)).isNaN = false) (h3 : Fl.fin .f64 r w) (kn : okN r) (h : Heap) : Ret Try.prog ro X 12 [toV c] h (.float .f32 (nr r)) := by
  have hc : Ret Try.prog ro X 70 [.float .f64 (pwF c)] h (.float .f64 r) := fun _ _ => cf_eq (call_ext hS (by simp only [ext1, gSqrt, h2, Bool.false_eq_true, if_false, Option.map_some, h1, h3.cf]))
  have hq : Ret Try.prog ro X 55 [.float .f64 (pwF c)] h (.float .f64 r) := by
    refine ret_of (callR_of (hX _ rfl) Try.func55 rfl (by kernel_rfl) (Nat.le_of_ble_eq_true rfl) ?_)
    (repeat' first | simp -dsimp (disch := first | omega | assumption | (refine OkS.sto ?_ (by omega); first | assumption | (refine OkS.sto ?_ (by omega); first | assumption | (refine OkS.sto ?_ (by omega); first | assumption | (refine OkS.sto ?_ (by omega); first | assumption | (refine OkS.sto ?_ (by omega); first | assumption | (refine OkS.sto ?_ (by omega); first | assumption)))))) | exact Pfx.refl _ | (apply Pfx.snoc; repeat (first | exact Pfx.refl _ | assumption | apply Pfx.snoc)) | with_unfolding_all exact of_eq_true (eq_true rfl) | (simp only [List.length_append, List.length_cons, List.length_nil]; omega)) only [↓wpre0, ↓wpre1, ↓reduceIte, Int.reduceToNat, Nat.reduceAdd, Nat.reduceMul, Nat.reduceEqDiff, wpost0, wpost1, wpost2, wpost3, wpost4, ite_self, ite_true, ite_false, if_true, if_false, fr55, wrap_int, wrap_u8, iteP_yes, iteP_no, hc] | refine iteP_two (fun hc hd => ?_) (fun hc hd => ?_) | refine iteP_intro (fun hc => ?_) (fun hc => ?_))
  have e : Ret Try.prog ro X 34 [toV c] h (.float .f32 (nr r)) := by
    refine ret_of (callR_of (hX _ rfl) Try.func34 rfl (by kernel_rfl) (Nat.le_of_ble_eq_true rfl) ?_)
    (repeat' first | simp -dsimp (disch := first | omega | assumption | (refine OkS.sto ?_ (by omega); first | assumption | (refine OkS.sto ?_ (by omega); first | assumption | (refine OkS.sto ?_ (by omega); first | assumption | (refine OkS.sto ?_ (by omega); first | assumption | (refine OkS.sto ?_ (by omega); first | assumption | (refine OkS.sto ?_ (by omega); first | assumption)))))) | exact Pfx.refl _ | (apply Pfx.snoc; repeat (first | exact Pfx.refl _ | assumption | apply Pfx.snoc)) | with_unfolding_all exact of_eq_true (eq_true rfl) | (simp only [List.length_append, List.length_cons, List.length_nil]; omega)) only [↓wpre0, ↓wpre1, ↓reduceIte, Int.reduceToNat, Nat.reduceAdd, Nat.reduceMul, Nat.reduceEqDiff, wpost0, wpost1, wpost2, wpost3, wpost4, ite_self, ite_true, ite_false, if_true, if_false, fr34, wrap_int, wrap_u8, iteP_yes, iteP_no, powS_r hX k, hq, narS_r hX kn] | refine iteP_two (fun hc hd => ?_) (fun hc hd => ?_) | refine iteP_intro (fun hc => ?_) (fun hc => ?_))
  refine ret_of (callR_of (hX _ rfl) Try.func12 rfl (by kernel_rfl) (Nat.le_of_ble_eq_true rfl) ?_)
  (repeat' first | simp -dsimp (disch := first | omega | assumption | (refine OkS.sto ?_ (by omega); first | assumption | (refine OkS.sto ?_ (by omega); first | assumption | (refine OkS.sto ?_ (by omega); first | assumption | (refine OkS.sto ?_ (by omega); first | assumption | (refine OkS.sto ?_ (by omega); first | assumption | (refine OkS.sto ?_ (by omega); first | assumption)))))) | exact Pfx.refl _ | (apply Pfx.snoc; repeat (first | exact Pfx.refl _ | assumption | apply Pfx.snoc)) | with_unfolding_all exact of_eq_true (eq_true rfl) | (simp only [List.length_append, List.length_cons, List.length_nil]; omega)) only [↓wpre0, ↓wpre1, ↓reduceIte, Int.reduceToNat, Nat.reduceAdd, Nat.reduceMul, Nat.reduceEqDiff, wpost0, wpost1, wpost2, wpost3, wpost4, ite_self, ite_true, ite_false, if_true, if_false, fr12, wrap_int, wrap_u8, iteP_yes, iteP_no, e] | refine iteP_two (fun hc hd => ?_) (fun hc hd => ?_) | refine iteP_intro (fun hc => ?_) (fun hc => ?_))
theorem widS_r (hX : XN X) {c : CB} (k : okC c) (h : Heap) : Ret Try.prog ro X 62 [toV c] h (.complex .f64 (wd c.a) (wd c.b)) := by
  refine ret_of (callR_of (hX _ rfl) Try.func62 rfl (by kernel_rfl) (Nat.le_of_ble_eq_true rfl) ?_)
  (repeat' first | simp -dsimp (disch := first | omega | assumption | (refine OkS.sto ?_ (by omega); first | assumption | (refine OkS.sto ?_ (by omega); first | assumption | (refine OkS.sto ?_ (by omega); first | assumption | (refine OkS.sto ?_ (by omega); first | assumption | (refine OkS.sto ?_ (by omega); first | assumption | (refine OkS.sto ?_ (by omega); first | assumption)))))) | exact Pfx.refl _ | (apply Pfx.snoc; repeat (first | exact Pfx.refl _ | assumption | apply Pfx.snoc)) | with_unfolding_all exact of_eq_true (eq_true rfl) | (simp only [List.length_append, List.length_cons, List.length_nil]; omega)) only [↓wpre0, ↓wpre1, ↓reduceIte, Int.reduceToNat, Nat.reduceAdd, Nat.reduceMul, Nat.reduceEqDiff, wpost0, wpost1, wpost2, wpost3, wpost4, ite_self, ite_true, ite_false, if_true, if_false, blt_real, xcv35_39, blt_imag, blt_cpx, fr62, wrap_int, wrap_u8, iteP_yes, iteP_no, cv_w k.1, cv_w k.2] | refine iteP_two (fun hc hd => ?_) (fun hc hd => ?_) | refine iteP_intro (fun hc => ?_) (fun hc => ?_))
theorem wmuS_r (hX : XN X) (a b c d : Nat) (h : Heap) : Ret Try.prog ro X 61 [.complex .f64 a b, .complex .f64 c d] h (.complex .f64 (farith .sub .f64 (farith .mul .f64 a c) (farith .mul .f64 b d)) (farith .add .f64 (farith .mul .f64 a d) (farith .mul .f64 b c))) := by
  refine ret_of (callR_of (hX _ rfl) Try.func61 rfl (by kernel_rfl) (Nat.le_of_ble_eq_true rfl) ?_)
  (repeat' first | simp -dsimp (disch := first | omega | assumption | (refine OkS.sto ?_ (by omega); first | assumption | (refine OkS.sto ?_ (by omega); first | assumption | (refine OkS.sto ?_ (by omega); first | assumption | (refine OkS.sto ?_ (by omega); first | assumption | (refine OkS.sto ?_ (by omega); first | assumption | (refine OkS.sto ?_ (by omega); first | assumption)))))) | exact Pfx.refl _ | (apply Pfx.snoc; repeat (first | exact Pfx.refl _ | assumption | apply Pfx.snoc)) | with_unfolding_all exact of_eq_true (eq_true rfl) | (simp only [List.length_append, List.length_cons, List.length_nil]; omega)) only [↓wpre0, ↓wpre1, ↓reduceIte, Int.reduceToNat, Nat.reduceAdd, Nat.reduceMul, Nat.reduceEqDiff, wpost0, wpost1, wpost2, wpost3, wpost4, ite_self, ite_true, ite_false, if_true, if_false, blt_real, bin_fmul, blt_imag, bin_fsub, bin_fadd, blt_cpx, fr61, wrap_int, wrap_u8, iteP_yes, iteP_no] | refine iteP_two (fun hc hd => ?_) (fun hc hd => ?_) | refine iteP_intro (fun hc => ?_) (fun hc => ?_))
theorem MulS_r (hX : XN X) {c d : CB} (k : okM c d) (h : Heap) : Ret Try.prog ro X 22 [toV c, toV d] h (toV (mulB c d)) := by
  have k3 : okN (farith .sub .f64 (farith .mul .f64 (wd c.a) (wd d.a)) (farith .mul .f64 (wd c.b) (wd d.b))) := k.2.2.1
  have k4 : okN (farith .add .f64 (farith .mul .f64 (wd c.a) (wd d.b)) (farith .mul .f64 (wd c.b) (wd d.a))) := k.2.2.2
  have nn : ∀ {a b : Nat}, okN a → okN b → Ret Try.prog ro X 60 [.complex .f64 a b] h (.complex .f32 (nr a) (nr b)) := fun {a b} ka kb => by
    refine ret_of (callR_of (hX _ rfl) Try.func60 rfl (by kernel_rfl) (Nat.le_of_ble_eq_true rfl) ?_)
    (repeat' first | simp -dsimp (disch := first | omega | assumption | (refine OkS.sto ?_ (by omega); first | assumption | (refine OkS.sto ?_ (by omega); first | assumption | (refine OkS.sto ?_ (by omega); first | assumption | (refine OkS.sto ?_ (by omega); first | assumption | (refine OkS.sto ?_ (by omega); first | assumption | (refine OkS.sto ?_ (by omega); first | assumption)))))) | exact Pfx.refl _ | (apply Pfx.snoc; repeat (first | exact Pfx.refl _ | assumption | apply Pfx.snoc)) | with_unfolding_all exact of_eq_true (eq_true rfl) | (simp only [List.length_append, List.length_cons, List.length_nil]; omega)) only [↓wpre0, ↓wpre1, ↓reduceIte, Int.reduceToNat, Nat.reduceAdd, Nat.reduceMul, Nat.reduceEqDiff, wpost0, wpost1, wpost2, wpost3, wpost4, ite_self, ite_true, ite_false, if_true, if_false, blt_real, blt_imag, blt_cpx, fr60, wrap_int, wrap_u8, iteP_yes, iteP_no, narS_r hX ka, narS_r hX kb] | refine iteP_two (fun hc hd => ?_) (fun hc hd => ?_) | refine iteP_intro (fun hc => ?_) (fun hc => ?_))
  have e : Ret Try.prog ro X 44 [toV c, toV d] h (toV (mulB c d)) := by
    refine ret_of (callR_of (hX _ rfl) Try.func44 rfl (by kernel_rfl) (Nat.le_of_ble_eq_true rfl) ?_)
    (repeat' first | simp -dsimp (disch := first | omega | assumption | (refine OkS.sto ?_ (by omega); first | assumption | (refine OkS.sto ?_ (by omega); first | assumption | (refine OkS.sto ?_ (by omega); first | assumption | (refine OkS.sto ?_ (by omega); first | assumption | (refine OkS.sto ?_ (by omega); first | assumption | (refine OkS.sto ?_ (by omega); first | assumption)))))) | exact Pfx.refl _ | (apply Pfx.snoc; repeat (first | exact Pfx.refl _ | assumption | apply Pfx.snoc)) | with_unfolding_all exact of_eq_true (eq_true rfl) | (simp only [List.length_append, List.length_cons, List.length_nil]; omega)) only [↓wpre0, ↓wpre1, ↓reduceIte, Int.reduceToNat, Nat.reduceAdd, Nat.reduceMul, Nat.reduceEqDiff, wpost0, wpost1, wpost2, wpost3, wpost4, ite_self, ite_true, ite_false, if_true, if_false, fr44, wrap_int, wrap_u8, iteP_yes, iteP_no, widS_r hX k.1, widS_r hX k.2.1, wmuS_r hX, nn k3 k4] | refine iteP_two (fun hc hd => ?_) (fun hc hd => ?_) | refine iteP_intro (fun hc => ?_) (fun hc => ?_))
    rfl
  refine ret_of (callR_of (hX _ rfl) Try.func22 rfl (by kernel_rfl) (Nat.le_of_ble_eq_true rfl) ?_)
  (repeat' first | simp -dsimp (disch := first | omega | assumption | (refine OkS.sto ?_ (by omega); first | assumption | (refine OkS.sto ?_ (by omega); first | assumption | (refine OkS.sto ?_ (by omega); first | assumption | (refine OkS.sto ?_ (by omega); first | assumption | (refine OkS.sto ?_ (by omega); first | assumption | (refine OkS.sto ?_ (by omega); first | assumption)))))) | exact Pfx.refl _ | (apply Pfx.snoc; repeat (first | exact Pfx.refl _ | assumption | apply Pfx.snoc)) | with_unfolding_all exact of_eq_true (eq_true rfl) | (simp only [List.length_append, List.length_cons, List.length_nil]; omega)) only [↓wpre0, ↓wpre1, ↓reduceIte, Int.reduceToNat, Nat.reduceAdd, Nat.reduceMul, Nat.reduceEqDiff, wpost0, wpost1, wpost2, wpost3, wpost4, ite_self, ite_true, ite_false, if_true, if_false, fr22, wrap_int, wrap_u8, iteP_yes, iteP_no, e] | refine iteP_two (fun hc hd => ?_) (fun hc hd => ?_) | refine iteP_intro (fun hc => ?_) (fun hc => ?_))
theorem TenD_c (hX : XN X) (hV : VS lo hi 1 h x cd.length (cd.map u8v)) (hhi : hi ≤ h.length) (hl : cd.length ≤ 1099511627776) (hro : ro ≤ h.length) :
    CallR Try.prog ro X 6 [x] h (fun r h' => ∃ u v : Nat, (u : Int) < 71 ∧ (v : Int) < 71 ∧ r = .agg ⟨[.int .i64 ((u : Int) - 35), .int .i64 ((v : Int) - 35)]⟩ ∧ h' = h) := by
  have p0 : Pfx h (h ++ [(⟨27, [.int .i64 0, .int .i64 0]⟩ : Blk)]) := (Pfx.refl h).snoc
  refine callR_of (hX _ rfl) Try.func6 rfl (by kernel_rfl) (Nat.le_of_ble_eq_true rfl) ?_
  (repeat' first | simp -dsimp (disch := first | omega | assumption | (refine OkS.sto ?_ (by omega); first | assumption | (refine OkS.sto ?_ (by omega); first | assumption | (refine OkS.sto ?_ (by omega); first | assumption | (refine OkS.sto ?_ (by omega); first | assumption | (refine OkS.sto ?_ (by omega); first | assumption | (refine OkS.sto ?_ (by omega); first | assumption)))))) | exact Pfx.refl _ | (apply Pfx.snoc; repeat (first | exact Pfx.refl _ | assumption | apply Pfx.snoc)) | with_unfolding_all exact of_eq_true (eq_true rfl) | (simp only [List.length_append, List.length_cons, List.length_nil]; omega)) only [↓wpre0, ↓wpre1, ↓reduceIte, Int.reduceToNat, Nat.reduceAdd, Nat.reduceMul, Nat.reduceEqDiff, wpost0, wpost1, wpost2, wpost3, wpost4, ite_self, ite_true, ite_false, if_true, if_false, tze27, bin_sub, xbld27_0, xst27, xfad27_1, xst2, xld27, fr6, wrap_int, wrap_u8, iteP_yes, iteP_no] | refine iteP_two (fun hc hd => ?_) (fun hc hd => ?_) | refine iteP_intro (fun hc => ?_) (fun hc => ?_))
  refine cf_rel (From_c (hX _ rfl) (hV.pre p0) (by simp; omega)) (fun q => by cases q) ?_
  rintro r H1 ⟨rfl, p1, l1, S1⟩
  (repeat' first | simp -dsimp (disch := first | omega | assumption | (refine OkS.sto ?_ (by omega); first | assumption | (refine OkS.sto ?_ (by omega); first | assumption | (refine OkS.sto ?_ (by omega); first | assumption | (refine OkS.sto ?_ (by omega); first | assumption | (refine OkS.sto ?_ (by omega); first | assumption | (refine OkS.sto ?_ (by omega); first | assumption)))))) | exact Pfx.refl _ | (apply Pfx.snoc; repeat (first | exact Pfx.refl _ | assumption | apply Pfx.snoc)) | with_unfolding_all exact of_eq_true (eq_true rfl) | (simp only [List.length_append, List.length_cons, List.length_nil]; omega)) only [↓wpre0, ↓wpre1, ↓reduceIte, Int.reduceToNat, Nat.reduceAdd, Nat.reduceMul, Nat.reduceEqDiff, wpost0, wpost1, wpost2, wpost3, wpost4, ite_self, ite_true, ite_false, if_true, if_false, tze27, bin_sub, xbld27_0, xst27, xfad27_1, xst2, xld27, fr6, wrap_int, wrap_u8, iteP_yes, iteP_no] | refine iteP_two (fun hc hd => ?_) (fun hc hd => ?_) | refine iteP_intro (fun hc => ?_) (fun hc => ?_))
  have eb : (h ++ [(⟨27, [.int .i64 0, .int .i64 0]⟩ : Blk)]).length = h.length + 1 := by simp
  rw [eb] at S1 l1 ⊢
  refine cf_rel (pick_c (hX _ rfl) (hX _ rfl) (n := 71) S1 (by omega) (by omega) (by omega) hl (by omega)) (fun q => by cases q) ?_
  rintro r H2 ⟨a, rfl, _, ha, S2, o2⟩
  have ha := ha (by omega)
  have l2 := o2.1
  have q2 : Pfx H2 (H2 ++ [(⟨27, [.int .i64 ((a : Int) - 35), .int .i64 0]⟩ : Blk)]) := (Pfx.refl H2).snoc
  (repeat' first | simp -dsimp (disch := first | omega | assumption | (refine OkS.sto ?_ (by omega); first | assumption | (refine OkS.sto ?_ (by omega); first | assumption | (refine OkS.sto ?_ (by omega); first | assumption | (refine OkS.sto ?_ (by omega); first | assumption | (refine OkS.sto ?_ (by omega); first | assumption | (refine OkS.sto ?_ (by omega); first | assumption)))))) | exact Pfx.refl _ | (apply Pfx.snoc; repeat (first | exact Pfx.refl _ | assumption | apply Pfx.snoc)) | with_unfolding_all exact of_eq_true (eq_true rfl) | (simp only [List.length_append, List.length_cons, List.length_nil]; omega)) only [↓wpre0, ↓wpre1, ↓reduceIte, Int.reduceToNat, Nat.reduceAdd, Nat.reduceMul, Nat.reduceEqDiff, wpost0, wpost1, wpost2, wpost3, wpost4, ite_self, ite_true, ite_false, if_true, if_false, tze27, bin_sub, xbld27_0, xst27, xfad27_1, xst2, xld27, fr6, wrap_int, wrap_u8, iteP_yes, iteP_no] | refine iteP_two (fun hc hd => ?_) (fun hc hd => ?_) | refine iteP_intro (fun hc => ?_) (fun hc => ?_))
  refine cf_rel (pick_c (hX _ rfl) (hX _ rfl) (n := 71) (S2.pre q2) (by omega) (by omega) (by omega) hl (by omega)) (fun q => by cases q) ?_
  rintro r H3 ⟨b, rfl, _, hb, S3, o3⟩
  have hb := hb (by omega)
  have l3 := o3.1
  have eh2 : (H2 ++ [(⟨27, [.int .i64 ((a : Int) - 35), .int .i64 0]⟩ : Blk)]).length = H2.length + 1 := by simp
  have g3 : H3[H2.length]? = some ⟨27, [.int .i64 ((a : Int) - 35), .int .i64 0]⟩ := by rw [o3.2 _ (by omega)]; exact get_last rfl
  have pt : put ro H3 H2.length 1 1 (.int .i64 ((b : Int) - 35)) = some (H3.set H2.length ⟨27, [.int .i64 ((a : Int) - 35), .int .i64 ((b : Int) - 35)]⟩) := putb (cs := [.int .i64 ((a : Int) - 35), .int .i64 0]) g3 (by omega) rfl (by simp) rfl
  obtain ⟨H4, hH4⟩ : ∃ H, H = H3.set H2.length ⟨27, [.int .i64 ((a : Int) - 35), .int .i64 ((b : Int) - 35)]⟩ := ⟨_, rfl⟩
  rw [← hH4] at pt
  have l4 : H4.length = H3.length := by rw [hH4, List.length_set]
  have c4 : cells H4 H2.length 0 2 = some (.agg ⟨[.int .i64 ((a : Int) - 35), .int .i64 ((b : Int) - 35)]⟩) := by rw [hH4]; exact cells_set (by omega) (by simp)
  have lh0 : h.length < H1.length := by omega
  have g1 : H1[h.length]? = some ⟨27, [.int .i64 0, .int .i64 0]⟩ := by rw [p1.get (by simp)]; exact get_last rfl
  have g2 : H2[h.length]? = some ⟨27, [.int .i64 0, .int .i64 0]⟩ := by rw [o2.2 _ (by omega)]; exact g1
  have g4 : H4[h.length]? = some ⟨27, [.int .i64 0, .int .i64 0]⟩ := by
    rw [hH4, List.getElem?_set_ne (by omega), o3.2 _ (by omega), q2.get (by omega)]; exact g2
  have p4 : Pfx h H4 := by
    rw [hH4]
    exact Pfx.set (pfx_onl ((pfx_onl ((p0.trans p1)) o2 (by omega)).trans q2) o3 (by omega)) (by omega)
  have pt2 : put ro H4 h.length 0 2 (.agg ⟨[.int .i64 ((a : Int) - 35), .int .i64 ((b : Int) - 35)]⟩) = some (H4.set h.length ⟨27, [.int .i64 ((a : Int) - 35), .int .i64 ((b : Int) - 35)]⟩) := put2 g4 hro rfl rfl
  have c5 : cells (H4.set h.length ⟨27, [.int .i64 ((a : Int) - 35), .int .i64 ((b : Int) - 35)]⟩) h.length 0 2 = some (.agg ⟨[.int .i64 ((a : Int) - 35), .int .i64 ((b : Int) - 35)]⟩) := cells_set (by omega) (by simp)
  have ef : endH (.agg ⟨[.int .i64 ((a : Int) - 35), .int .i64 ((b : Int) - 35)]⟩) h (H4.set h.length ⟨27, [.int .i64 ((a : Int) - 35), .int .i64 ((b : Int) - 35)]⟩) = h := endH_flat rfl (p4.set (Nat.le_refl _))
  (repeat' first | simp -dsimp (disch := first | omega | assumption | (refine OkS.sto ?_ (by omega); first | assumption | (refine OkS.sto ?_ (by omega); first | assumption | (refine OkS.sto ?_ (by omega); first | assumption | (refine OkS.sto ?_ (by omega); first | assumption | (refine OkS.sto ?_ (by omega); first | assumption | (refine OkS.sto ?_ (by omega); first | assumption)))))) | exact Pfx.refl _ | (apply Pfx.snoc; repeat (first | exact Pfx.refl _ | assumption | apply Pfx.snoc)) | with_unfolding_all exact of_eq_true (eq_true rfl) | (simp only [List.length_append, List.length_cons, List.length_nil]; omega)) only [↓wpre0, ↓wpre1, ↓reduceIte, Int.reduceToNat, Nat.reduceAdd, Nat.reduceMul, Nat.reduceEqDiff, wpost0, wpost1, wpost2, wpost3, wpost4, ite_self, ite_true, ite_false, if_true, if_false, tze27, bin_sub, xbld27_0, xst27, xfad27_1, xst2, xld27, fr6, wrap_int, wrap_u8, iteP_yes, iteP_no, pt, c4, pt2, c5, ef] | refine iteP_two (fun hc hd => ?_) (fun hc hd => ?_) | refine iteP_intro (fun hc => ?_) (fun hc => ?_))
  exact ⟨a, b, ha, hb, rfl⟩
end Go.Proofs.Ytkhipobafchilaa.Sim

/- The facts that FnPatterns asks for. Lemmas only; no condition. -/
set_option linter.unusedSimpArgs false
set_option linter.unusedVariables false
set_option maxRecDepth 8000
namespace Go.Proofs.Ytkhipobafchilaa.Sim
open Go Go.RowKit Fl
open Gi
variable {n : Nat} {l : List Int} {u v : Int} {f g : Nat → CB}
theorem nearC_ok {c : CB} {Z : Gi} {E : Nat} (h : nearG c Z E) : okC c := by
  obtain ⟨⟨va, h1, _⟩, vb, h2, _⟩ := h
  exact ⟨okW_fin h1, okW_fin h2⟩
/-- Steered weights at their direction: the pattern. -/
theorem pat_own (hg : goodP n l) (hd : dirB u v = true) : okC (ptF (fun i => PH (stpN l u v i)) l n u v) ∧ okC ⟨cf .f32 (FloatKind.f32.nearest (n : Int)), 0⟩ ∧ fcmp .leq .f64 (gbF (wd (ptF (fun i => PH (stpN l u v i)) l n u v).a) (wd (cf .f32 (FloatKind.f32.nearest (n : Int))))) 4576918229304087675 = true ∧ fcmp .leq .f64 (gbF (wd (ptF (fun i => PH (stpN l u v i)) l n u v).b) (wd 0)) 4576918229304087675 = true := by
  have N := own_near (st := stpN l u v) hg.n16 (fun i hi => stp_lt hg hd hi)
  have M := num_near hg.n16
  obtain ⟨a1, a2, a3⟩ := gap_cent N.a M (by decide)
  obtain ⟨b1, b2, b3⟩ := gap_cent N.b (zeroP_near) (by decide)
  exact ⟨⟨a1, b1⟩, ⟨a2, b2⟩, a3, b3⟩
/-- The gain. -/
theorem pat_gain (hg : goodP n l) (hd : dirB u v = true) : (∀ i, i < n → okC (PH (stpN l u v i))) ∧ okN (pwS (fun i => PH (stpN l u v i)) n) ∧ okW (farith .quo .f32 (poF (fun i => PH (stpN l u v i)) l n u v) (nr (pwS (fun i => PH (stpN l u v i)) n))) ∧ fcmp .lss .f64 4576918229304087675 (gbF (wd (farith .quo .f32 (poF (fun i => PH (stpN l u v i)) l n u v) (nr (pwS (fun i => PH (stpN l u v i)) n)))) (cf .f64 (FloatKind.f64.nearest (n : Int)))) = false := by
  have N := own_near (st := stpN l u v) hg.n16 (fun i hi => stp_lt hg hd hi)
  obtain ⟨k1, k2, _, _, k5⟩ := gain_near (f := fun i => PH (stpN l u v i)) hg.n1 hg.n16 N (fun i hi => ⟨_, stp_lt hg hd hi, rfl⟩)
  refine ⟨k1, k2, ?_⟩
  show okW (farith .quo .f32 (nr (pwF (dotB (fun i => cjB (PH (stpN l u v i))) (fun i => PH (stpN l u v i)) n))) (nr (pwS (fun i => PH (stpN l u v i)) n))) ∧ fcmp .lss .f64 4576918229304087675 (gbF (wd (farith .quo .f32 (nr (pwF (dotB (fun i => cjB (PH (stpN l u v i))) (fun i => PH (stpN l u v i)) n))) (nr (pwS (fun i => PH (stpN l u v i)) n)))) (cf .f64 (FloatKind.f64.nearest (n : Int)))) = false
  generalize farith .quo .f32 (nr (pwF (dotB (fun i => cjB (PH (stpN l u v i))) (fun i => PH (stpN l u v i)) n))) (nr (pwS (fun i => PH (stpN l u v i)) n)) = q at *
  obtain ⟨D, hD⟩ : ∃ D, D = 925 := ⟨_, rfl⟩
  obtain ⟨N', hN⟩ : ∃ N, N = 1074 := ⟨_, rfl⟩
  obtain ⟨w, hw⟩ : ∃ u, u = 57 + 1010 := ⟨_, rfl⟩
  obtain ⟨c, hc⟩ : ∃ c, c = 1015 := ⟨_, rfl⟩
  obtain ⟨va, h1, h2⟩ := k5
  refine ⟨okW_fin h1, ?_⟩
  have wa := wd_fin h1
  rw [← hD] at wa
  refine (gap_le wa (num_fin hg.n16 hN) (u := w) ?_ (by omega) (cent_fin hc) (pow_c (a := 52) (by omega) (by decide))).2
  have e : va * 2 ^ D - (n : Int) * 2 ^ N' = (va - (n : Int) * 18446744073709551616 * 2 ^ 85) * 2 ^ D := by
    rw [Int.sub_mul]
    congr 1
    rw [show N' = 64 + (85 + D) by omega, Int.pow_add, Int.pow_add]
    have : (2 : Int) ^ 64 = 18446744073709551616 := by decide
    rw [this]
    simp only [Int.mul_assoc]
  rw [e, abs_mul_pow, show w = 57 + 85 + D by omega, Nat.pow_add, Nat.pow_add]
  exact Nat.mul_le_mul_right _ h2
/-- The pattern at whatever direction. -/
theorem pat_long {u' v' : Int} (hg : goodP n l) (hd : dirB u v = true) (hd' : dirB u' v' = true) : ∃ r w, FloatKind.f64.format.sqrt (pwF (ptF (fun i => PH (stpN l u v i)) l n u' v')) = some r ∧ (FloatKind.f64.decode (pwF (ptF (fun i => PH (stpN l u v i)) l n u' v'))).isNaN = false ∧ Fl.fin .f64 r w ∧ okN r ∧ okW (nr r) ∧ fcmp .lss .f64 (farith .add .f64 (cf .f64 (FloatKind.f64.nearest (n : Int))) 4576918229304087675) (wd (nr r)) = false := by
  obtain ⟨Z, h1, h2⟩ := oth_near (sa := stpN l u v) (sb := stpN l u' v') hg.n16 (fun i hi => stp_lt hg hd hi) (fun i hi => stp_lt hg hd' hi)
  exact (long_le hg.n1 hg.n16 h1 h2).2
/-- Drawn weights as whole numbers. -/
theorem fine_ch (hf : ∀ i, bdC 150 (f i)) : ∃ F : Nat → Gi, ∀ i, nearG (f i) (F i) 1 ∧ (F i).nm ≤ 2 ^ 66 := Classical.axiomOfChoice (fun i => fine_G (hf i))
theorem stp_add (l : List Int) (u v u' v' : Int) (i : Nat) : stpN l (u + u') (v + v') i = stpN l u v i + stpN l u' v' i := by
  unfold stpN
  grind
/-- Moved weights. -/
theorem pat_mov {u' v' : Int} (hg : goodP n l) (hd : dirB u v = true) (hd' : dirB u' v' = true) (hb : dirB (u + u') (v + v') = true) (hf : ∀ i, bdC 150 (f i)) : (∀ i, i < n → okM (f i) (PH (stpN l u v i))) ∧ (∀ i, i < n → okM (cjB (mulB (f i) (PH (stpN l u v i)))) (PH (stpN l (u + u') (v + v') i))) ∧ okC (ptF (fun i => mulB (f i) (PH (stpN l u v i))) l n (u + u') (v + v')) ∧ okC (ptF f l n u' v') ∧ fcmp .leq .f64 (gbF (wd (ptF (fun i => mulB (f i) (PH (stpN l u v i))) l n (u + u') (v + v')).a) (wd (ptF f l n u' v').a)) 4587366580439587226 = true ∧ fcmp .leq .f64 (gbF (wd (ptF (fun i => mulB (f i) (PH (stpN l u v i))) l n (u + u') (v + v')).b) (wd (ptF f l n u' v').b)) 4587366580439587226 = true := by
  obtain ⟨F, hF⟩ := fine_ch hf
  have s1 := fun i hi => stp_lt (i := i) hg hd hi
  have s2 := fun i hi => stp_lt (i := i) hg hd' hi
  have s3 : ∀ i, i < n → (stpN l u v i + stpN l u' v' i).natAbs < 2 ^ 27 := fun i hi => by rw [← stp_add]; exact stp_lt hg hb hi
  have A := mov_near (hh := stpN l u v) (st := stpN l u' v') hg.n16 (fun i _ => hF i) s1 s3
  have B := (fin_near (st := stpN l u' v') hg.n16 (fun i _ => hF i) s2).1
  have eA : ptF (fun i => mulB (f i) (PH (stpN l u v i))) l n (u + u') (v + v') = dotB (fun i => cjB (mulB (f i) (PH (stpN l u v i)))) (fun i => PH (stpN l u v i + stpN l u' v' i)) n := by
    unfold ptF
    congr 1
    funext i
    rw [stp_add]
  rw [← eA] at A
  obtain ⟨a1, a2, a3⟩ := gap_twen A.a B.a (by decide)
  obtain ⟨b1, b2, b3⟩ := gap_twen A.b B.b (by decide)
  refine ⟨fun i hi => (mov_w (hF i).1 (hF i).2 (s1 i hi)).1, fun i hi => ?_, ⟨a1, b1⟩, ⟨a2, b2⟩, a3, b3⟩
  rw [stp_add]
  exact (mov_p (hF i).1 (hF i).2 (s1 i hi) (s3 i hi)).1
/-- Mirrored weights on a line. -/
theorem pat_mir {t : Int} (hg : goodP n l) (hd : dirB u v = true) (hl : ∀ i, i < n → stpN l u v i = (i : Int) * t) (hf : ∀ i, bdC 150 (f i)) : okW (poF f l n u v) ∧ okW (poF (fun i => cjB (f (n - 1 - i))) l n u v) ∧ fcmp .lss .f64 4602678819172646912 (gbF (wd (poF f l n u v)) (wd (poF (fun i => cjB (f (n - 1 - i))) l n u v))) = false := by
  obtain ⟨F, hF⟩ := fine_ch hf
  have s1 := fun i hi => stp_lt (i := i) hg hd hi
  have A := fin_near (st := stpN l u v) hg.n16 (fun i _ => hF i) s1
  have B := fin_near (f := fun i => cjB (f (n - 1 - i))) (F := fun i => (F (n - 1 - i)).cj) (st := stpN l u v) hg.n16 (fun i _ => ⟨(hF (n - 1 - i)).1.cj, nm_cj_le (hF (n - 1 - i)).2⟩) s1
  have n71 : n * (2 ^ 66 * 26087636000000000000 / 18446744073709551616 + 3) ≤ 2 ^ 71 := Nat.le_trans (Nat.mul_le_mul_right _ hg.n16) (by decide)
  have P := mir_pw (F := F) (t := t) hg.n16 (fun i _ => (hF i).2)
  have e1 : suG (fun i => flG ((F i).cj * qG (stpN l u v i))) n = suG (fun i => flG ((F i).cj * qG ((i : Int) * t))) n := suG_congr fun i hi => by rw [hl i hi]
  have e2 : suG (fun i => flG ((F (n - 1 - i)).cj.cj * qG (stpN l u v i))) n = suG (fun i => flG ((F (n - 1 - i)).cj.cj * qG ((i : Int) * t))) n := suG_congr fun i hi => by rw [hl i hi]
  rw [← e1, ← e2] at P
  obtain ⟨_, _, _, _, w1, w2, r⟩ := gap_half A.1 B.1 (Nat.le_trans A.2 n71) (Nat.le_trans B.2 n71) (T := 0) (by rw [← Int.natAbs_neg, Int.neg_sub]; exact P)
  exact ⟨w1, w2, r⟩
theorem dotB_cg {f g f' g' : Nat → CB} : ∀ {n : Nat}, (∀ i, i < n → f i = f' i ∧ g i = g' i) → dotB f g n = dotB f' g' n
  | 0, _ => rfl
  | n + 1, h => by
    show addB (dotB f g n) (mulB (f n) (g n)) = addB (dotB f' g' n) (mulB (f' n) (g' n))
    rw [dotB_cg (fun i hi => h i (Nat.lt_succ_of_lt hi)), (h n (Nat.lt_succ_self n)).1, (h n (Nat.lt_succ_self n)).2]
/-- Outer weights. -/
theorem pat_out {l1 l2 l3 : List Int} (h1 : goodP 6 l1) (h2 : goodP 3 l2) (h3 : goodP 2 l3) (hd : dirB u v = true) (hl : ∀ t, t < 6 → stpN l1 u v t = stpN l2 u v (t % 3) + stpN l3 u v (t / 3)) (hf : ∀ i, bdC 150 (f i)) (hgg : ∀ i, bdC 150 (g i)) : (∀ i j, i < 3 → j < 2 → okM (f i) (g j)) ∧ (∀ t, t < 6 → okM (cjB (mulB (f (t % 3)) (g (t / 3)))) (PH (stpN l1 u v t))) ∧ okM (ptF f l2 3 u v) (ptF g l3 2 u v) ∧ okC (ptF (fun t => mulB (f (t % 3)) (g (t / 3))) l1 6 u v) ∧ okC (mulB (ptF f l2 3 u v) (ptF g l3 2 u v)) ∧ fcmp .leq .f64 (gbF (wd (ptF (fun t => mulB (f (t % 3)) (g (t / 3))) l1 6 u v).a) (wd (mulB (ptF f l2 3 u v) (ptF g l3 2 u v)).a)) 4587366580439587226 = true ∧ fcmp .leq .f64 (gbF (wd (ptF (fun t => mulB (f (t % 3)) (g (t / 3))) l1 6 u v).b) (wd (mulB (ptF f l2 3 u v) (ptF g l3 2 u v)).b)) 4587366580439587226 = true := by
  obtain ⟨F, hF⟩ := fine_ch hf
  obtain ⟨G, hG⟩ := fine_ch hgg
  have m3 : ∀ t, t < 6 → t % 3 < 3 ∧ t / 3 < 2 := fun t ht => by omega
  have s1 : ∀ t, t < 6 → (stpN l2 u v (t % 3) + stpN l3 u v (t / 3)).natAbs < 2 ^ 27 := fun t ht => by rw [← hl t ht]; exact stp_lt h1 hd ht
  obtain ⟨Z, A, dZ⟩ := out_near (a := stpN l2 u v) (b := stpN l3 u v) (fun i _ => hF i) (fun i _ => hG i) s1
  have B := fin_near (n := 3) (st := stpN l2 u v) (by decide) (fun i _ => hF i) (fun i hi => stp_lt h2 hd hi)
  have C := fin_near (n := 2) (st := stpN l3 u v) (by decide) (fun i _ => hG i) (fun i hi => stp_lt h3 hd hi)
  obtain ⟨ok, P⟩ := pr_near B.1 C.1 B.2 C.2
  have A' := A.shift dZ
  have eA : ptF (fun t => mulB (f (t % 3)) (g (t / 3))) l1 6 u v = dotB (fun t => cjB (mulB (f (t % 3)) (g (t / 3)))) (fun t => PH (stpN l2 u v (t % 3) + stpN l3 u v (t / 3))) 6 := by
    unfold ptF
    refine dotB_cg fun i hi => ⟨rfl, ?_⟩
    rw [hl i hi]
  rw [← eA] at A'
  obtain ⟨a1, a2, a3⟩ := gap_twen A'.a P.a (by decide)
  obtain ⟨b1, b2, b3⟩ := gap_twen A'.b P.b (by decide)
  refine ⟨fun i j hi hj => (out_w (hF i).1 (hF i).2 (hG j).1 (hG j).2).1, fun t ht => ?_, ok, ⟨a1, b1⟩, ⟨a2, b2⟩, a3, b3⟩
  rw [hl t ht]
  exact (out_p (hF _).1 (hF _).2 (hG _).1 (hG _).2 (s1 t ht)).1
/-! ### Places and directions -/
theorem gd_of {n : Nat} {l : List Int} (h : (decide (1 ≤ n) && decide (n ≤ 16) && (List.range n).all (fun i => plB l i && (List.range i).all fun k => !samB l i k)) = true) : goodP n l := by
  simp only [Bool.and_eq_true, decide_eq_true_eq, List.all_eq_true, List.mem_range, Bool.not_eq_true'] at h
  obtain ⟨⟨h1, h2⟩, h3⟩ := h
  exact ⟨h1, h2, fun i hi => (h3 i hi).1, fun i k hi hk => (h3 i hi).2 k hk⟩
theorem line20 {n : Nat} (n1 : 1 ≤ n) (n16 : n ≤ 16) : goodP n (grL n 20 0 n) := by
  have : (List.range 17).all (fun n => n == 0 || (decide (1 ≤ n) && decide (n ≤ 16) && (List.range n).all (fun i => plB (grL n 20 0 n) i && (List.range i).all fun k => !samB (grL n 20 0 n) i k))) = true := by decide +kernel
  simp only [List.all_eq_true, List.mem_range] at this
  have := this n (by omega)
  rw [Bool.or_eq_true] at this
  rcases this with q | q
  · simp at q; omega
  · exact gd_of q
theorem grid6 : goodP 6 (grL 3 24 30 6) := gd_of (by decide +kernel)
theorem row3 : goodP 3 (grL 3 24 0 3) := gd_of (by decide +kernel)
theorem two2 : goodP 2 [0, 0, 0, 30] := gd_of (by decide +kernel)
theorem line_st {n : Nat} (u v : Int) : ∀ i, i < n → stpN (grL n 20 0 n) u v i = (i : Int) * (20 * u) := fun i hi => by
  obtain ⟨e1, e2⟩ := grL_at (c := n) (dx := 20) (dy := 0) hi
  unfold stpN
  rw [e1, e2, Nat.mod_eq_of_lt hi, Int.mul_zero, Int.zero_mul, Int.add_zero, Int.mul_assoc]
theorem grid_st (u v : Int) : ∀ t, t < 6 → stpN (grL 3 24 30 6) u v t = stpN (grL 3 24 0 3) u v (t % 3) + stpN [0, 0, 0, 30] u v (t / 3) := fun t ht => by
  have c : t = 0 ∨ t = 1 ∨ t = 2 ∨ t = 3 ∨ t = 4 ∨ t = 5 := by omega
  rcases c with rfl | rfl | rfl | rfl | rfl | rfl <;> simp [stpN, grL, nth, List.range, List.range.loop] <;> omega
theorem dir35 {a b : Int} (h1 : -35 ≤ a) (h2 : a ≤ 35) (h3 : -35 ≤ b) (h4 : b ≤ 35) : dirB a b = true := by
  have s : ∀ {u : Int}, -35 ≤ u → u ≤ 35 → u * u ≤ 1225 := fun {u} h0 h1 => by
    have h : u * u = ((u.natAbs * u.natAbs : Nat) : Int) := by rw [← Int.natAbs_mul_self]
    have h2 : u.natAbs * u.natAbs ≤ 35 * 35 := Nat.mul_le_mul (by omega) (by omega)
    omega
  have q1 := s h1 h2
  have q2 := s h3 h4
  unfold dirB
  simp only [Bool.and_eq_true, decide_eq_true_eq]
  omega
theorem half35 {a : Int} (h1 : -35 ≤ a) (h2 : a ≤ 35) : -17 ≤ a.tdiv 2 ∧ a.tdiv 2 ≤ 17 := by
  rcases Int.le_total 0 a with q | q
  · rw [Int.tdiv_eq_ediv_of_nonneg q]; omega
  · have e : a.tdiv 2 = -((-a) / 2) := by rw [← Int.tdiv_eq_ediv_of_nonneg (by omega), Int.neg_tdiv, Int.neg_neg]
    rw [e]; omega
end Go.Proofs.Ytkhipobafchilaa.Sim

/- The law FnPatterns. Lemmas only; no condition. -/
set_option linter.unusedSimpArgs false
set_option linter.unusedVariables false
set_option maxRecDepth 8000
namespace Go.Proofs.Ytkhipobafchilaa.Sim
open Go Go.RowKit Fl
variable {ro lo lo' hi hi' n : Nat} {X : Ext} {h : Heap} {x y : Value} {l : List Int} {f : Nat → CB} {u v : Int} {cd md : List UInt8}
noncomputable def xE0 : Ext := orX (soloX 70 gSqrt) (orX (soloX 73 gBits) (orX (soloX 72 gFrom) (soloX 71 fBits)))
noncomputable def xE1 (ro : Nat) : Ext := orX (xPl ro xE0) xE0
theorem xn_E0 : XN xE0 := XN.orS (XN.onlyS (by decide +kernel)) (XN.orS (XN.onlyS (by decide +kernel)) (XN.orS (XN.onlyS (by decide +kernel)) (XN.onlyS (by decide +kernel))))
theorem xn_E1 (ro : Nat) : XN (xE1 ro) := XN.orS (XN.onlyS (by decide +kernel)) xn_E0
theorem eBits_ok {P : Program} {ro : Nat} (ρ : List Loc) (x y r : Value) (hx : fBits x = some r) (hv : VR P ro ρ x y) : ∃ r', (∀ w, (Extern.MathFloatBits.float32bits #[y]).run P w = .ok r' w) ∧ VR P ro ρ r r' := by
  cases hv <;> simp only [fBits] at hx <;> first | (cases hx; done) | skip
  rename_i k b b' hb
  cases k <;> simp only at hx <;> first | (cases hx; done) | skip
  split at hx
  · cases hx
  · rename_i hnan
    cases hx
    obtain rfl := cf_back hb (by simpa using hnan)
    exact ⟨.int .u32 b', fun w => rfl, .int _ _⟩
theorem eBits32_ok {B : Base} : XOk Try.prog ro B (soloX 71 fBits) := soloX_ok (e := Extern.MathFloatBits.float32bits) Try.func71 rfl rfl (by kernel_rfl) (by kernel_rfl) eBits_ok
theorem xok_E0 {ro : Nat} {B : Base} : XOk Try.prog ro B xE0 := orX_ok xSqrt_ok (orX_ok xBits_ok (orX_ok xFrom_ok eBits32_ok))
theorem xok_E1 {ro : Nat} {B : Base} : XOk Try.prog ro B (xE1 ro) := orX_ok (xPl_ok xok_E0) xok_E0
theorem xw_E {X : Ext} (hX : XN X) : XDW X := ⟨hX _ rfl, hX _ rfl, hX _ rfl, hX _ rfl⟩
theorem litP2 (h : Heap) : bldS Try.prog h 24 2 [(0, .agg ⟨[.int .i64 0, .int .i64 0]⟩), (1, .agg ⟨[.int .i64 0, .int .i64 30]⟩)] = some (.slice (some ⟨h.length, 0, none⟩) 2 2, h ++ [⟨51, [.int .i64 0, .int .i64 0, .int .i64 0, .int .i64 30]⟩]) := by
  have e : lay (fun i => some (i * 2, 2)) (List.replicate 2 (cellsOf (.agg ⟨[.int .i64 0, .int .i64 0]⟩))).flatten [(0, .agg ⟨[.int .i64 0, .int .i64 0]⟩), (1, .agg ⟨[.int .i64 0, .int .i64 30]⟩)] = some [.int .i64 0, .int .i64 0, .int .i64 0, .int .i64 30] := by kernel_rfl
  simp only [bldS, tel24, tsz51, tze51, Option.bind_some]
  rw [if_pos ⟨by decide, by kernel_rfl⟩, e]
  rfl
theorem Row_c {c : Nat} {s : Int} (hX : XN X) (c1 : 1 ≤ c) (c2 : c ≤ 16) (hs : cdB s = true) (hg : goodP c (grL c s 0 c)) (hro : ro ≤ h.length) :
    CallR Try.prog ro X 18 [.int .i64 c, .int .i64 s] h (fun r h' => ∃ z, r = .tuple ⟨[z, .bool true]⟩ ∧ Pfx h h' ∧ VG h.length 51 2 h' z c (vints (grL c s 0 c))) := by
  refine callR_of (hX _ rfl) Try.func18 rfl (by kernel_rfl) (Nat.le_of_ble_eq_true rfl) ?_
  (repeat' first | simp -dsimp (disch := first | omega | assumption | (refine OkS.sto ?_ (by omega); first | assumption | (refine OkS.sto ?_ (by omega); first | assumption | (refine OkS.sto ?_ (by omega); first | assumption | (refine OkS.sto ?_ (by omega); first | assumption | (refine OkS.sto ?_ (by omega); first | assumption | (refine OkS.sto ?_ (by omega); first | assumption)))))) | exact Pfx.refl _ | (apply Pfx.snoc; repeat (first | exact Pfx.refl _ | assumption | apply Pfx.snoc)) | with_unfolding_all exact of_eq_true (eq_true rfl) | (simp only [List.length_append, List.length_cons, List.length_nil]; omega)) only [↓wpre0, ↓wpre1, ↓reduceIte, Int.reduceToNat, Nat.reduceAdd, Nat.reduceMul, Nat.reduceEqDiff, wpost0, wpost1, wpost2, wpost3, wpost4, ite_self, ite_true, ite_false, if_true, if_false, fr18, wrap_int, wrap_u8, iteP_yes, iteP_no] | refine iteP_two (fun hc hd => ?_) (fun hc hd => ?_) | refine iteP_intro (fun hc => ?_) (fun hc => ?_))
  refine cf_rel (Grid_c (n := c) (c := c) (r := 1) (dx := s) (dy := 0) hX c1 (by omega) (by decide) (by decide) (by omega) hs (by decide) hg hro) (fun q => by cases q) ?_
  rintro r h2 ⟨z, rfl, hp, hZ⟩
  have hnf : Sim.flat (.tuple ⟨[z, .bool true]⟩) = false := by obtain ⟨_, b, cap, rfl, _⟩ := hZ; rfl
  (repeat' first | simp -dsimp (disch := first | omega | assumption | (refine OkS.sto ?_ (by omega); first | assumption | (refine OkS.sto ?_ (by omega); first | assumption | (refine OkS.sto ?_ (by omega); first | assumption | (refine OkS.sto ?_ (by omega); first | assumption | (refine OkS.sto ?_ (by omega); first | assumption | (refine OkS.sto ?_ (by omega); first | assumption)))))) | exact Pfx.refl _ | (apply Pfx.snoc; repeat (first | exact Pfx.refl _ | assumption | apply Pfx.snoc)) | with_unfolding_all exact of_eq_true (eq_true rfl) | (simp only [List.length_append, List.length_cons, List.length_nil]; omega)) only [↓wpre0, ↓wpre1, ↓reduceIte, Int.reduceToNat, Nat.reduceAdd, Nat.reduceMul, Nat.reduceEqDiff, wpost0, wpost1, wpost2, wpost3, wpost4, ite_self, ite_true, ite_false, if_true, if_false, fr18, wrap_int, wrap_u8, iteP_yes, iteP_no, endH_not hnf] | refine iteP_two (fun hc hd => ?_) (fun hc hd => ?_) | refine iteP_intro (fun hc => ?_) (fun hc => ?_))
  exact ⟨z, rfl, hp, hZ⟩
set_option maxHeartbeats 16000000 in
theorem lawPat_c (hX : XN X) (hS : X 70 = some (ext1 gSqrt)) (hB : X 71 = some (ext1 fBits)) (hX0 : XN xE0) (hW : XDW xE0) (hA : XAbs X) (hx : X 24 = xPl ro xE0 24) (hW2 : XDW X) (hV : VS lo hi 1 h x cd.length (cd.map u8v)) (hU : VS lo' hi' 1 h y md.length (md.map u8v)) (hhi : hi ≤ h.length) (hhi' : hi' ≤ h.length) (hro : ro ≤ h.length) (hl : cd.length ≤ 140737488351232) (hl' : md.length ≤ 140737488351232) :
    CallR Try.prog ro X 3 [x, y] h (fun r h' => r = .bool true) := by
  refine callR_of (hX _ rfl) Try.func3 rfl (by kernel_rfl) (Nat.le_of_ble_eq_true rfl) ?_
  by_cases hlong : (decide (1048576 < cd.length) || decide (1048576 < md.length)) = true
  · (repeat' first | simp -dsimp (disch := first | omega | assumption | (refine OkS.sto ?_ (by omega); first | assumption | (refine OkS.sto ?_ (by omega); first | assumption | (refine OkS.sto ?_ (by omega); first | assumption | (refine OkS.sto ?_ (by omega); first | assumption | (refine OkS.sto ?_ (by omega); first | assumption | (refine OkS.sto ?_ (by omega); first | assumption)))))) | exact Pfx.refl _ | (apply Pfx.snoc; repeat (first | exact Pfx.refl _ | assumption | apply Pfx.snoc)) | with_unfolding_all exact of_eq_true (eq_true rfl) | (simp only [List.length_append, List.length_cons, List.length_nil]; omega)) only [↓wpre0, ↓wpre1, ↓reduceIte, Int.reduceToNat, Nat.reduceAdd, Nat.reduceMul, Nat.reduceEqDiff, wpost0, wpost1, wpost2, wpost3, wpost4, ite_self, ite_true, ite_false, if_true, if_false, xlen24, tze27, xst27, xld27, un_not, xcv2_35, blt_cpx, xcv35_39, xcv2_39, bin_fadd, bin_fgtr, xfad27_0, xld2, bin_quo, xfad27_1, xbld27_0_1, bin_add, xbld51, xbld51_1, xbls24_0, xbls24_1, fr3, wrap_int, wrap_u8, iteP_yes, iteP_no, long_r (hX _ rfl) hV hU (by omega) (by omega), hlong] | refine iteP_two (fun hc hd => ?_) (fun hc hd => ?_) | refine iteP_intro (fun hc => ?_) (fun hc => ?_))
  have hlong' : (decide (1048576 < cd.length) || decide (1048576 < md.length)) = false := by simpa using hlong
  have hc1 : cd.length ≤ 1048576 := by simp at hlong'; omega
  have hm1 : md.length ≤ 1048576 := by simp at hlong'; omega
  (repeat' first | simp -dsimp (disch := first | omega | assumption | (refine OkS.sto ?_ (by omega); first | assumption | (refine OkS.sto ?_ (by omega); first | assumption | (refine OkS.sto ?_ (by omega); first | assumption | (refine OkS.sto ?_ (by omega); first | assumption | (refine OkS.sto ?_ (by omega); first | assumption | (refine OkS.sto ?_ (by omega); first | assumption)))))) | exact Pfx.refl _ | (apply Pfx.snoc; repeat (first | exact Pfx.refl _ | assumption | apply Pfx.snoc)) | with_unfolding_all exact of_eq_true (eq_true rfl) | (simp only [List.length_append, List.length_cons, List.length_nil]; omega)) only [↓wpre0, ↓wpre1, ↓reduceIte, Int.reduceToNat, Nat.reduceAdd, Nat.reduceMul, Nat.reduceEqDiff, wpost0, wpost1, wpost2, wpost3, wpost4, ite_self, ite_true, ite_false, if_true, if_false, xlen24, tze27, xst27, xld27, un_not, xcv2_35, blt_cpx, xcv35_39, xcv2_39, bin_fadd, bin_fgtr, xfad27_0, xld2, bin_quo, xfad27_1, xbld27_0_1, bin_add, xbld51, xbld51_1, xbls24_0, xbls24_1, fr3, wrap_int, wrap_u8, iteP_yes, iteP_no, long_r (hX _ rfl) hV hU (by omega) (by omega), hlong'] | refine iteP_two (fun hc hd => ?_) (fun hc hd => ?_) | refine iteP_intro (fun hc => ?_) (fun hc => ?_))
  refine cf_rel (TenP_c hW hX0 hX hx hV hro hhi (by omega)) (fun q => by cases q) ?_
  rintro r H1 ⟨n, yb, yc, l, rfl, hyb, hD, hll, hg, hr, p1⟩
  have hI := is_blk (dc := yc) hD hll
  have l1 := p1.len
  have n16 := hg.n16
  have n1 := hg.n1
  have hV1 := hV.pre p1
  have hU1 := hU.pre p1
  have hyb1 : yb < H1.length := by
    rcases Nat.lt_or_ge yb H1.length with q | q
    · exact q
    · rw [List.getElem?_eq_none q] at hD; cases hD
  have ht1 : tyP ro H1 (.slice (some ⟨yb, 0, none⟩) n yc) := fun _ => by show (H1[yb]?).map Blk.ty = _; rw [hD]; rfl
  (repeat' first | simp -dsimp (disch := first | omega | assumption | (refine OkS.sto ?_ (by omega); first | assumption | (refine OkS.sto ?_ (by omega); first | assumption | (refine OkS.sto ?_ (by omega); first | assumption | (refine OkS.sto ?_ (by omega); first | assumption | (refine OkS.sto ?_ (by omega); first | assumption | (refine OkS.sto ?_ (by omega); first | assumption)))))) | exact Pfx.refl _ | (apply Pfx.snoc; repeat (first | exact Pfx.refl _ | assumption | apply Pfx.snoc)) | with_unfolding_all exact of_eq_true (eq_true rfl) | (simp only [List.length_append, List.length_cons, List.length_nil]; omega)) only [↓wpre0, ↓wpre1, ↓reduceIte, Int.reduceToNat, Nat.reduceAdd, Nat.reduceMul, Nat.reduceEqDiff, wpost0, wpost1, wpost2, wpost3, wpost4, ite_self, ite_true, ite_false, if_true, if_false, xlen24, tze27, xst27, xld27, un_not, xcv2_35, blt_cpx, xcv35_39, xcv2_39, bin_fadd, bin_fgtr, xfad27_0, xld2, bin_quo, xfad27_1, xbld27_0_1, bin_add, xbld51, xbld51_1, xbls24_0, xbls24_1, fr3, wrap_int, wrap_u8, iteP_yes, iteP_no, hI.len Try.underlying24] | refine iteP_two (fun hc hd => ?_) (fun hc hd => ?_) | refine iteP_intro (fun hc => ?_) (fun hc => ?_))
  refine cf_rel (TenD_c hX hU1 (by omega) (by omega) (by omega)) (fun q => by cases q) ?_
  rintro _ H1 ⟨a, b, ha, hb, rfl, e1⟩
  subst e1
  obtain ⟨u, hu⟩ : ∃ u : Int, u = (a : Int) - 35 := ⟨_, rfl⟩
  obtain ⟨v, hv⟩ : ∃ v : Int, v = (b : Int) - 35 := ⟨_, rfl⟩
  rw [← hu, ← hv]
  have pG1 : Pfx H1 (H1 ++ [(⟨27, [.int .i64 u, .int .i64 v]⟩ : Blk)]) := (Pfx.refl H1).snoc
  (repeat' first | simp -dsimp (disch := first | omega | assumption | (refine OkS.sto ?_ (by omega); first | assumption | (refine OkS.sto ?_ (by omega); first | assumption | (refine OkS.sto ?_ (by omega); first | assumption | (refine OkS.sto ?_ (by omega); first | assumption | (refine OkS.sto ?_ (by omega); first | assumption | (refine OkS.sto ?_ (by omega); first | assumption)))))) | exact Pfx.refl _ | (apply Pfx.snoc; repeat (first | exact Pfx.refl _ | assumption | apply Pfx.snoc)) | with_unfolding_all exact of_eq_true (eq_true rfl) | (simp only [List.length_append, List.length_cons, List.length_nil]; omega)) only [↓wpre0, ↓wpre1, ↓reduceIte, Int.reduceToNat, Nat.reduceAdd, Nat.reduceMul, Nat.reduceEqDiff, wpost0, wpost1, wpost2, wpost3, wpost4, ite_self, ite_true, ite_false, if_true, if_false, xlen24, tze27, xst27, xld27, un_not, xcv2_35, blt_cpx, xcv35_39, xcv2_39, bin_fadd, bin_fgtr, xfad27_0, xld2, bin_quo, xfad27_1, xbld27_0_1, bin_add, xbld51, xbld51_1, xbls24_0, xbls24_1, fr3, wrap_int, wrap_u8, iteP_yes, iteP_no] | refine iteP_two (fun hc hd => ?_) (fun hc hd => ?_) | refine iteP_intro (fun hc => ?_) (fun hc => ?_))
  refine cf_rel (TenD_c hX (hV1.pre pG1) (by simp; omega) (by omega) (by simp; omega)) (fun q => by cases q) ?_
  rintro _ _ ⟨a', b', ha', hb', rfl, e1⟩
  subst e1
  obtain ⟨u', hu'⟩ : ∃ u : Int, u = (a' : Int) - 35 := ⟨_, rfl⟩
  obtain ⟨v', hv'⟩ : ∃ v : Int, v = (b' : Int) - 35 := ⟨_, rfl⟩
  rw [← hu', ← hv']
  have hd : dirB u v = true := dir35 (by omega) (by omega) (by omega) (by omega)
  have hd' : dirB u' v' = true := dir35 (by omega) (by omega) (by omega) (by omega)
  obtain ⟨G, hG⟩ : ∃ G, G = H1 ++ [(⟨27, [.int .i64 u, .int .i64 v]⟩ : Blk)] := ⟨_, rfl⟩
  have lG : G.length = H1.length + 1 := by rw [hG]; simp
  have dG : G[H1.length]? = some ⟨27, [.int .i64 u, .int .i64 v]⟩ := by rw [hG]; exact get_last rfl
  rw [← hG] at pG1 ⊢
  obtain ⟨G2, hG2⟩ : ∃ G2, G2 = G ++ [(⟨27, [.int .i64 u', .int .i64 v']⟩ : Blk)] := ⟨_, rfl⟩
  have q2 : Pfx G G2 := by rw [hG2]; exact (Pfx.refl G).snoc
  have lG2 : G2.length = H1.length + 2 := by rw [hG2]; simp; omega
  have dG2 : G2[G.length]? = some ⟨27, [.int .i64 u', .int .i64 v']⟩ := by rw [hG2]; exact get_last rfl
  have cD : ∀ {K : Heap}, Pfx G2 K → cells K H1.length 0 2 = some (.agg ⟨[.int .i64 u, .int .i64 v]⟩) := fun p => cellsb (o := 0) (n := 2) (((q2.trans p).get (by omega)).trans dG) (by simp)
  have cE : ∀ {K : Heap}, Pfx G2 K → cells K G.length 0 2 = some (.agg ⟨[.int .i64 u', .int .i64 v']⟩) := fun p => cellsb (o := 0) (n := 2) ((p.get (by omega)).trans dG2) (by simp)
  obtain ⟨xl, hxl⟩ : ∃ xl : Value, xl = .slice (some ⟨yb, 0, none⟩) n yc := ⟨_, rfl⟩
  have pG2 := pG1.trans q2
  have mI : ∀ {K : Heap}, Pfx G2 K → IS yb (yb + 1) 2 K xl n l := fun p => by rw [hxl]; exact hI.pre (pG2.trans p)
  have mT : ∀ {K : Heap}, Pfx G2 K → tyP ro K xl := fun p => by rw [hxl]; exact ht1.pre hI (by omega) (pG2.trans p)
  have mV : ∀ {K : Heap}, Pfx G2 K → VS lo hi 1 K x cd.length (cd.map u8v) := fun p => hV1.pre (pG2.trans p)
  have mU : ∀ {K : Heap}, Pfx G2 K → VS lo' hi' 1 K y md.length (md.map u8v) := fun p => hU1.pre (pG2.trans p)
  rw [← hxl]
  have x0 := Pfx.refl G2
  have cG : cells G H1.length 0 2 = some (.agg ⟨[.int .i64 u, .int .i64 v]⟩) := cellsb (o := 0) (n := 2) dG (by simp)
  (repeat' first | simp -dsimp (disch := first | omega | assumption | (refine OkS.sto ?_ (by omega); first | assumption | (refine OkS.sto ?_ (by omega); first | assumption | (refine OkS.sto ?_ (by omega); first | assumption | (refine OkS.sto ?_ (by omega); first | assumption | (refine OkS.sto ?_ (by omega); first | assumption | (refine OkS.sto ?_ (by omega); first | assumption)))))) | exact Pfx.refl _ | (apply Pfx.snoc; repeat (first | exact Pfx.refl _ | assumption | apply Pfx.snoc)) | with_unfolding_all exact of_eq_true (eq_true rfl) | (simp only [List.length_append, List.length_cons, List.length_nil]; omega)) only [↓wpre0, ↓wpre1, ↓reduceIte, Int.reduceToNat, Nat.reduceAdd, Nat.reduceMul, Nat.reduceEqDiff, wpost0, wpost1, wpost2, wpost3, wpost4, ite_self, ite_true, ite_false, if_true, if_false, xlen24, tze27, xst27, xld27, un_not, xcv2_35, blt_cpx, xcv35_39, xcv2_39, bin_fadd, bin_fgtr, xfad27_0, xld2, bin_quo, xfad27_1, xbld27_0_1, bin_add, xbld51, xbld51_1, xbls24_0, xbls24_1, fr3, wrap_int, wrap_u8, iteP_yes, iteP_no, cG] | refine iteP_two (fun hc hd => ?_) (fun hc hd => ?_) | refine iteP_intro (fun hc => ?_) (fun hc => ?_))
  rw [← hG2]
  refine cf_rel (SteeringOf_c hX hA (mI x0) (mT x0) hg hd (by omega) (by omega)) (fun q => by cases q) ?_
  rintro _ K1 ⟨w, rfl, x1, hw⟩
  have lK1 := x1.len
  have hroK : ro ≤ K1.length := by omega
  obtain ⟨W, hW0⟩ : ∃ W : Nat → CB, W = fun i => PH (stpN l u v i) := ⟨_, rfl⟩
  rw [← hW0] at hw
  have k1 : PW ro K1 xl w n l W := ⟨hg, ⟨yb, yb + 1, by omega, mI x1⟩, mT x1, ⟨_, hw⟩, fun i hi => by rw [hW0]; exact PH_b150 (stp_lt hg hd hi)⟩
  obtain ⟨o1, o2, o3, o4⟩ := pat_own hg hd
  obtain ⟨g0, g2, g3, g4⟩ := pat_gain hg hd
  obtain ⟨r, rv, r1, r2, r3, r4, r5, r6⟩ := pat_long hg hd hd'
  rw [← hW0] at o1 o3 o4 g2 g3 g4 r1 r2
  have g1 : ∀ i, i < n → okC (W i) := fun i hi => by rw [hW0]; exact g0 i hi
  have okt := (ptF_bd hg hd' k1.bd).ok
  have bdt := poF_bd hg hd' k1.bd
  have hnear0 := b10Near_r (ro := ro) hX o1 o2 o3 o4 K1
  have hlo := LongS_r (ro := ro) hX hS okt r1 r2 r3 r4 K1
  have hpo0 := PowerS_r (ro := ro) hX okt bdt.1 K1
  have hsa := SameS_r (ro := ro) hX hB bdt.2.notNaN K1
  have hpo : Ret Try.prog ro X 14 [toV (ptF W l n u' v')] K1 (.float .f32 (poF W l n u' v')) := hpo0
  have hga := b10Gap_r (ro := ro) hX (wd (farith .quo .f32 (poF W l n u v) (nr (pwS W n)))) (cf .f64 (FloatKind.f64.nearest (n : Int))) K1
  (repeat' first | simp -dsimp (disch := first | omega | assumption | (refine OkS.sto ?_ (by omega); first | assumption | (refine OkS.sto ?_ (by omega); first | assumption | (refine OkS.sto ?_ (by omega); first | assumption | (refine OkS.sto ?_ (by omega); first | assumption | (refine OkS.sto ?_ (by omega); first | assumption | (refine OkS.sto ?_ (by omega); first | assumption)))))) | exact Pfx.refl _ | (apply Pfx.snoc; repeat (first | exact Pfx.refl _ | assumption | apply Pfx.snoc)) | with_unfolding_all exact of_eq_true (eq_true rfl) | (simp only [List.length_append, List.length_cons, List.length_nil]; omega)) only [↓thenQ_normal, ↓thenQ_exit, ↓thenQ_ret, ↓blockQ_normal, ↓blockQ_exit, ↓blockQ_ret, ↓o_plain, ↓o_nil, ↓o_guard, ↓gvl_zero, ↓gvl_succ, ↓p_move, ↓p_assign, ↓p_pick, ↓p_binOp, ↓p_unOp, ↓wpre1, ↓reduceIte, Int.reduceToNat, Nat.reduceAdd, Nat.reduceMul, Nat.reduceEqDiff, wpost0, wpost1, wpost2, wpost3, wpost4, ite_self, ite_true, ite_false, if_true, if_false, xlen24, tze27, xst27, xld27, un_not, xcv2_35, blt_cpx, xcv35_39, xcv2_39, bin_fadd, bin_fgtr, xfad27_0, xld2, bin_quo, xfad27_1, xbld27_0_1, bin_add, xbld51, xbld51_1, xbls24_0, xbls24_1, fr3, wrap_int, wrap_u8, iteP_yes, iteP_no] | refine iteP_two (fun hc hd => ?_) (fun hc hd => ?_) | refine iteP_intro (fun hc => ?_) (fun hc => ?_))
  refine env_cut (fun e h2 => h2 = K1 ∧ e 0 = x ∧ e 1 = y ∧ e 5 = xl ∧ e 6 = .int .i64 n ∧ e 7 = .pointer (some ⟨H1.length, 0, none⟩) ∧ e 8 = .pointer (some ⟨G.length, 0, none⟩) ∧ e 9 = w ∧ e 10 = .bool true) ?_ ?_
  · simp only [updO_at, updO_not, entry_at, List.getD_cons_zero, List.getD_cons_succ, ↓reduceIte, Nat.reduceEqDiff, true_and, and_true]
    (repeat' (first | assumption | rfl | omega | refine And.intro ?_ ?_))
  rintro e h' ⟨rfl, z0, z1, z5, z6, z7, z8, z9, z10⟩
  have hnear : Ret Try.prog ro X 11 [toV (ptF W l n u v), .complex .f32 (cf .f32 (FloatKind.f32.nearest (n : Int))) 0, .float .f64 4576918229304087675] h' (.bool true) := hnear0
  (repeat' first | simp -dsimp (disch := first | omega | assumption | (refine OkS.sto ?_ (by omega); first | assumption | (refine OkS.sto ?_ (by omega); first | assumption | (refine OkS.sto ?_ (by omega); first | assumption | (refine OkS.sto ?_ (by omega); first | assumption | (refine OkS.sto ?_ (by omega); first | assumption | (refine OkS.sto ?_ (by omega); first | assumption)))))) | exact Pfx.refl _ | (apply Pfx.snoc; repeat (first | exact Pfx.refl _ | assumption | apply Pfx.snoc)) | with_unfolding_all exact of_eq_true (eq_true rfl) | (simp only [List.length_append, List.length_cons, List.length_nil]; omega)) only [↓wpre0, ↓wpre1, ↓reduceIte, Int.reduceToNat, Nat.reduceAdd, Nat.reduceMul, Nat.reduceEqDiff, wpost0, wpost1, wpost2, wpost3, wpost4, ite_self, ite_true, ite_false, if_true, if_false, xlen24, tze27, xst27, xld27, un_not, xcv2_35, blt_cpx, xcv35_39, xcv2_39, bin_fadd, bin_fgtr, xfad27_0, xld2, bin_quo, xfad27_1, xbld27_0_1, bin_add, xbld51, xbld51_1, xbls24_0, xbls24_1, fr3, wrap_int, wrap_u8, iteP_yes, iteP_no, z0, z1, z5, z6, z7, z8, z9, z10, cD x1, cE x1, PatternAt_r hX hA k1 hd hroK, PatternAt_r hX hA k1 hd' hroK, PowerAt_r hX hA k1 hd' hroK, GainAt_r hX hA k1 hd hroK g1 g2, conv_if Try.underlying2 Try.underlying39, conv_if Try.underlying2 Try.underlying35, hnear, hlo, cv_w r5, r6, hpo, hsa, cv_w g3, hga, g4] | refine iteP_two (fun hc hd => ?_) (fun hc hd => ?_) | refine iteP_intro (fun hc => ?_) (fun hc => ?_))
  refine cf_rel (Fine_c hW2 hX (mU x1) (by omega) (by omega) (by omega) (n := n) (by omega)) (fun q => by cases q) ?_
  rintro fz K2 ⟨f, hf, x12, hR⟩
  have lK2 := x12.len
  have x2 := x1.trans x12
  (repeat' first | simp -dsimp (disch := first | omega | assumption | (refine OkS.sto ?_ (by omega); first | assumption | (refine OkS.sto ?_ (by omega); first | assumption | (refine OkS.sto ?_ (by omega); first | assumption | (refine OkS.sto ?_ (by omega); first | assumption | (refine OkS.sto ?_ (by omega); first | assumption | (refine OkS.sto ?_ (by omega); first | assumption)))))) | exact Pfx.refl _ | (apply Pfx.snoc; repeat (first | exact Pfx.refl _ | assumption | apply Pfx.snoc)) | with_unfolding_all exact of_eq_true (eq_true rfl) | (simp only [List.length_append, List.length_cons, List.length_nil]; omega)) only [↓thenQ_normal, ↓thenQ_exit, ↓thenQ_ret, ↓blockQ_normal, ↓blockQ_exit, ↓blockQ_ret, ↓o_plain, ↓o_nil, ↓o_guard, ↓gvl_zero, ↓gvl_succ, ↓p_move, ↓p_assign, ↓p_pick, ↓p_binOp, ↓p_unOp, ↓wpre1, ↓reduceIte, Int.reduceToNat, Nat.reduceAdd, Nat.reduceMul, Nat.reduceEqDiff, wpost0, wpost1, wpost2, wpost3, wpost4, ite_self, ite_true, ite_false, if_true, if_false, xlen24, tze27, xst27, xld27, un_not, xcv2_35, blt_cpx, xcv35_39, xcv2_39, bin_fadd, bin_fgtr, xfad27_0, xld2, bin_quo, xfad27_1, xbld27_0_1, bin_add, xbld51, xbld51_1, xbls24_0, xbls24_1, fr3, wrap_int, wrap_u8, iteP_yes, iteP_no, z0, z1, z5, z6, z7, z8] | refine iteP_two (fun hc hd => ?_) (fun hc hd => ?_) | refine iteP_intro (fun hc => ?_) (fun hc => ?_))
  refine env_cut (fun e h2 => h2 = K2 ∧ e 0 = x ∧ e 1 = y ∧ e 5 = xl ∧ e 6 = .int .i64 n ∧ e 7 = .pointer (some ⟨H1.length, 0, none⟩) ∧ e 8 = .pointer (some ⟨G.length, 0, none⟩) ∧ e 19 = fz) ?_ ?_
  · simp only [updO_at, updO_not, entry_at, List.getD_cons_zero, List.getD_cons_succ, ↓reduceIte, Nat.reduceEqDiff, true_and, and_true]
    exact ⟨z0, z1, z5, z6, z7, z8⟩
  clear hnear hnear0 hpo0 g0 hlo hpo hsa hga o1 o2 o3 o4 g1 g2 g3 g4 r1 r2 r3 r4 r5 r6 okt bdt k1 hw W hW0 rv r z0 z1 z5 z6 z7 z8 z9 z10
  rintro e h2 ⟨rfl, z0, z1, z5, z6, z7, z8, z19⟩
  obtain ⟨su, hsu⟩ : ∃ z : Int, z = u.tdiv 2 := ⟨_, rfl⟩
  obtain ⟨sv, hsv⟩ : ∃ z : Int, z = v.tdiv 2 := ⟨_, rfl⟩
  obtain ⟨tu, htu⟩ : ∃ z : Int, z = u'.tdiv 2 := ⟨_, rfl⟩
  obtain ⟨tv, htv⟩ : ∃ z : Int, z = v'.tdiv 2 := ⟨_, rfl⟩
  have b1 := half35 (a := u) (by omega) (by omega)
  have b2 := half35 (a := v) (by omega) (by omega)
  have b3 := half35 (a := u') (by omega) (by omega)
  have b4 := half35 (a := v') (by omega) (by omega)
  rw [← hsu] at b1
  rw [← hsv] at b2
  rw [← htu] at b3
  rw [← htv] at b4
  have dD : ∀ {K : Heap}, Pfx G2 K → K[H1.length]? = some ⟨27, [.int .i64 u, .int .i64 v]⟩ := fun p => ((q2.trans p).get (by omega)).trans dG
  have dE : ∀ {K : Heap}, Pfx G2 K → K[G.length]? = some ⟨27, [.int .i64 u', .int .i64 v']⟩ := fun p => (p.get (by omega)).trans dG2
  have c0 : cell h2 H1.length 0 = some (.int .i64 u) := cellb (dD x2)
  have c1 : cell h2 H1.length 1 = some (.int .i64 v) := cellb (dD x2)
  have c2 : cell h2 G.length 0 = some (.int .i64 u') := cellb (dE x2)
  have c3 : cell h2 G.length 1 = some (.int .i64 v') := cellb (dE x2)
  have lt1 : H1.length < h2.length := by omega
  have lt2 : G.length < h2.length := by omega
  (repeat' first | simp -dsimp (disch := first | omega | assumption | (refine OkS.sto ?_ (by omega); first | assumption | (refine OkS.sto ?_ (by omega); first | assumption | (refine OkS.sto ?_ (by omega); first | assumption | (refine OkS.sto ?_ (by omega); first | assumption | (refine OkS.sto ?_ (by omega); first | assumption | (refine OkS.sto ?_ (by omega); first | assumption)))))) | exact Pfx.refl _ | (apply Pfx.snoc; repeat (first | exact Pfx.refl _ | assumption | apply Pfx.snoc)) | with_unfolding_all exact of_eq_true (eq_true rfl) | (simp only [List.length_append, List.length_cons, List.length_nil]; omega)) only [↓wpre0, ↓wpre1, ↓reduceIte, Int.reduceToNat, Nat.reduceAdd, Nat.reduceMul, Nat.reduceEqDiff, wpost0, wpost1, wpost2, wpost3, wpost4, ite_self, ite_true, ite_false, if_true, if_false, xlen24, tze27, xst27, xld27, un_not, xcv2_35, blt_cpx, xcv35_39, xcv2_39, bin_fadd, bin_fgtr, xfad27_0, xld2, bin_quo, xfad27_1, xbld27_0_1, bin_add, xbld51, xbld51_1, xbls24_0, xbls24_1, fr3, wrap_int, wrap_u8, iteP_yes, iteP_no, z0, z1, z5, z6, z7, z8, c0, c1, c2, c3, bin_quo, ← hsu, ← hsv, ← htu, ← htv] | refine iteP_two (fun hc hd => ?_) (fun hc hd => ?_) | refine iteP_intro (fun hc => ?_) (fun hc => ?_))
  rw [z19]
  obtain ⟨J0, hJ0⟩ : ∃ J, J = h2 ++ [(⟨27, [.int .i64 su, .int .i64 sv]⟩ : Blk)] := ⟨_, rfl⟩
  obtain ⟨J1, hJ1⟩ : ∃ J, J = J0 ++ [(⟨27, [.int .i64 tu, .int .i64 tv]⟩ : Blk)] := ⟨_, rfl⟩
  obtain ⟨J2, hJ2⟩ : ∃ J, J = J1 ++ [(⟨27, [.int .i64 (su + tu), .int .i64 (sv + tv)]⟩ : Blk)] := ⟨_, rfl⟩
  rw [← hJ0, ← hJ1, ← hJ2]
  have lJ0 : J0.length = h2.length + 1 := by rw [hJ0]; simp
  have lJ1 : J1.length = h2.length + 2 := by rw [hJ1]; simp; omega
  have lJ2 : J2.length = h2.length + 3 := by rw [hJ2]; simp; omega
  have pJ0 : Pfx h2 J0 := by rw [hJ0]; exact (Pfx.refl _).snoc
  have pJ1 : Pfx J0 J1 := by rw [hJ1]; exact (Pfx.refl _).snoc
  have pJ2 : Pfx J1 J2 := by rw [hJ2]; exact (Pfx.refl _).snoc
  have pJ := (pJ0.trans pJ1).trans pJ2
  have xJ := x2.trans pJ
  have d0 : J0[h2.length]? = some ⟨27, [.int .i64 su, .int .i64 sv]⟩ := by rw [hJ0]; exact get_last rfl
  have d1 : J1[J0.length]? = some ⟨27, [.int .i64 tu, .int .i64 tv]⟩ := by rw [hJ1]; exact get_last rfl
  have d2 : J2[J1.length]? = some ⟨27, [.int .i64 (su + tu), .int .i64 (sv + tv)]⟩ := by rw [hJ2]; exact get_last rfl
  have cT : ∀ {K : Heap}, Pfx J2 K → cells K J0.length 0 2 = some (.agg ⟨[.int .i64 tu, .int .i64 tv]⟩) := fun p => cellsb (o := 0) (n := 2) (((pJ2.trans p).get (by omega)).trans d1) (by simp)
  have cB : ∀ {K : Heap}, Pfx J2 K → cells K J1.length 0 2 = some (.agg ⟨[.int .i64 (su + tu), .int .i64 (sv + tv)]⟩) := fun p => cellsb (o := 0) (n := 2) ((p.get (by omega)).trans d2) (by simp)
  have hds : dirB su sv = true := dir35 (by omega) (by omega) (by omega) (by omega)
  have hdt : dirB tu tv = true := dir35 (by omega) (by omega) (by omega) (by omega)
  have hdb : dirB (su + tu) (sv + tv) = true := dir35 (by omega) (by omega) (by omega) (by omega)
  obtain ⟨m1, m2, m3, m4, m5, m6⟩ := pat_mov hg hds hdt hdb hf
  have hK : ∀ {K : Heap}, Pfx J2 K → PW ro K xl fz n l f := fun p => ⟨hg, ⟨yb, yb + 1, by have := (xJ.trans p).len; omega, mI (xJ.trans p)⟩, mT (xJ.trans p), ⟨_, hR.pre (pJ.trans p)⟩, fun i _ => hf i⟩
  refine cf_rel (ShiftW_c hX hA (mI xJ) (mT xJ) hg hds (hR.pre pJ) hK m1 (by omega) (by omega)) (fun q => by cases q) ?_
  rintro _ K3 ⟨sz, rfl, y3, hsz⟩
  have lK3 := y3.len
  have x3 := xJ.trans y3
  have k3 : PG ro K3 xl sz n l (fun i => mulB (f i) (PH (stpN l su sv i))) := ⟨hg, ⟨yb, yb + 1, by omega, mI x3⟩, mT x3, ⟨_, hsz⟩⟩
  obtain ⟨mov, hmov⟩ : ∃ c, c = ptF (fun i => mulB (f i) (PH (stpN l su sv i))) l n (su + tu) (sv + tv) := ⟨_, rfl⟩
  obtain ⟨ste, hste⟩ : ∃ c, c = ptF f l n tu tv := ⟨_, rfl⟩
  have hp1 := PatG_r (ro := ro) hX hA k3 hdb m2 (by omega)
  have hp2 := PatternAt_r (ro := ro) hX hA (hK y3) hdt (by omega)
  rw [← hmov] at m3 m5 m6 hp1
  rw [← hste] at m4 m5 m6 hp2
  (repeat' first | simp -dsimp (disch := first | omega | assumption | (refine OkS.sto ?_ (by omega); first | assumption | (refine OkS.sto ?_ (by omega); first | assumption | (refine OkS.sto ?_ (by omega); first | assumption | (refine OkS.sto ?_ (by omega); first | assumption | (refine OkS.sto ?_ (by omega); first | assumption | (refine OkS.sto ?_ (by omega); first | assumption)))))) | exact Pfx.refl _ | (apply Pfx.snoc; repeat (first | exact Pfx.refl _ | assumption | apply Pfx.snoc)) | with_unfolding_all exact of_eq_true (eq_true rfl) | (simp only [List.length_append, List.length_cons, List.length_nil]; omega)) only [↓thenQ_normal, ↓thenQ_exit, ↓thenQ_ret, ↓blockQ_normal, ↓blockQ_exit, ↓blockQ_ret, ↓o_plain, ↓o_nil, ↓o_guard, ↓gvl_zero, ↓gvl_succ, ↓p_move, ↓p_assign, ↓p_pick, ↓p_binOp, ↓p_unOp, ↓wpre1, ↓reduceIte, Int.reduceToNat, Nat.reduceAdd, Nat.reduceMul, Nat.reduceEqDiff, wpost0, wpost1, wpost2, wpost3, wpost4, ite_self, ite_true, ite_false, if_true, if_false, xlen24, tze27, xst27, xld27, un_not, xcv2_35, blt_cpx, xcv35_39, xcv2_39, bin_fadd, bin_fgtr, xfad27_0, xld2, bin_quo, xfad27_1, xbld27_0_1, bin_add, xbld51, xbld51_1, xbls24_0, xbls24_1, fr3, wrap_int, wrap_u8, iteP_yes, iteP_no] | refine iteP_two (fun hc hd => ?_) (fun hc hd => ?_) | refine iteP_intro (fun hc => ?_) (fun hc => ?_))
  refine env_cut (fun e h2 => h2 = K3 ∧ e 0 = x ∧ e 1 = y ∧ e 5 = xl ∧ e 6 = .int .i64 n ∧ e 7 = .pointer (some ⟨H1.length, 0, none⟩) ∧ e 19 = fz ∧ e 21 = .pointer (some ⟨J0.length, 0, none⟩) ∧ e 22 = .pointer (some ⟨J1.length, 0, none⟩) ∧ e 23 = sz ∧ e 24 = .bool true) ?_ ?_
  · simp only [updO_at, updO_not, entry_at, List.getD_cons_zero, List.getD_cons_succ, ↓reduceIte, Nat.reduceEqDiff, true_and, and_true]
    (repeat' (first | assumption | rfl | omega | exact z0 | exact z1 | exact z5 | exact z6 | exact z7 | exact z19 | refine And.intro ?_ ?_))
  clear z0 z1 z5 z6 z7 z8 z19
  rintro e K3 ⟨rfl, z0, z1, z5, z6, z7, z19, z21, z22, z23, z24⟩
  (repeat' first | simp -dsimp (disch := first | omega | assumption | (refine OkS.sto ?_ (by omega); first | assumption | (refine OkS.sto ?_ (by omega); first | assumption | (refine OkS.sto ?_ (by omega); first | assumption | (refine OkS.sto ?_ (by omega); first | assumption | (refine OkS.sto ?_ (by omega); first | assumption | (refine OkS.sto ?_ (by omega); first | assumption)))))) | exact Pfx.refl _ | (apply Pfx.snoc; repeat (first | exact Pfx.refl _ | assumption | apply Pfx.snoc)) | with_unfolding_all exact of_eq_true (eq_true rfl) | (simp only [List.length_append, List.length_cons, List.length_nil]; omega)) only [↓wpre0, ↓wpre1, ↓reduceIte, Int.reduceToNat, Nat.reduceAdd, Nat.reduceMul, Nat.reduceEqDiff, wpost0, wpost1, wpost2, wpost3, wpost4, ite_self, ite_true, ite_false, if_true, if_false, xlen24, tze27, xst27, xld27, un_not, xcv2_35, blt_cpx, xcv35_39, xcv2_39, bin_fadd, bin_fgtr, xfad27_0, xld2, bin_quo, xfad27_1, xbld27_0_1, bin_add, xbld51, xbld51_1, xbls24_0, xbls24_1, fr3, wrap_int, wrap_u8, iteP_yes, iteP_no, z0, z1, z5, z6, z7, z19, z21, z22, z23, z24, cB y3, cT y3, hp1, hp2] | refine iteP_two (fun hc hd => ?_) (fun hc hd => ?_) | refine iteP_intro (fun hc => ?_) (fun hc => ?_))
  refine cf_rel (Row_c (c := n) (s := 20) hX n1 n16 (by decide) (line20 n1 n16) (by omega)) (fun q => by cases q) ?_
  rintro _ K4 ⟨lz, rfl, y4, hLZ⟩
  have lK4 := y4.len
  (repeat' first | simp -dsimp (disch := first | omega | assumption | (refine OkS.sto ?_ (by omega); first | assumption | (refine OkS.sto ?_ (by omega); first | assumption | (refine OkS.sto ?_ (by omega); first | assumption | (refine OkS.sto ?_ (by omega); first | assumption | (refine OkS.sto ?_ (by omega); first | assumption | (refine OkS.sto ?_ (by omega); first | assumption)))))) | exact Pfx.refl _ | (apply Pfx.snoc; repeat (first | exact Pfx.refl _ | assumption | apply Pfx.snoc)) | with_unfolding_all exact of_eq_true (eq_true rfl) | (simp only [List.length_append, List.length_cons, List.length_nil]; omega)) only [↓thenQ_normal, ↓thenQ_exit, ↓thenQ_ret, ↓blockQ_normal, ↓blockQ_exit, ↓blockQ_ret, ↓o_plain, ↓o_nil, ↓o_guard, ↓gvl_zero, ↓gvl_succ, ↓p_move, ↓p_assign, ↓p_pick, ↓p_binOp, ↓p_unOp, ↓wpre1, ↓reduceIte, Int.reduceToNat, Nat.reduceAdd, Nat.reduceMul, Nat.reduceEqDiff, wpost0, wpost1, wpost2, wpost3, wpost4, ite_self, ite_true, ite_false, if_true, if_false, xlen24, tze27, xst27, xld27, un_not, xcv2_35, blt_cpx, xcv35_39, xcv2_39, bin_fadd, bin_fgtr, xfad27_0, xld2, bin_quo, xfad27_1, xbld27_0_1, bin_add, xbld51, xbld51_1, xbls24_0, xbls24_1, fr3, wrap_int, wrap_u8, iteP_yes, iteP_no, z0, z1, z5, z6, z7, z19, z21, z22, z23, z24] | refine iteP_two (fun hc hd => ?_) (fun hc hd => ?_) | refine iteP_intro (fun hc => ?_) (fun hc => ?_))
  refine env_cut (fun e h2 => h2 = K4 ∧ e 0 = x ∧ e 1 = y ∧ e 7 = .pointer (some ⟨H1.length, 0, none⟩) ∧ e 19 = fz ∧ e 24 = .bool true ∧ e 25 = toV mov ∧ e 26 = .bool true ∧ e 27 = toV ste ∧ e 28 = .bool true ∧ e 29 = lz ∧ e 30 = .bool true) ?_ ?_
  · simp only [updO_at, updO_not, entry_at, List.getD_cons_zero, List.getD_cons_succ, ↓reduceIte, Nat.reduceEqDiff, true_and, and_true]
    (repeat' (first | assumption | rfl | omega | exact z0 | exact z1 | exact z7 | exact z19 | exact z24 | refine And.intro ?_ ?_))
  clear z0 z1 z5 z6 z7 z19 z21 z22 z23 z24 hp1 hp2
  rintro e K4 ⟨rfl, z0, z1, z7, z19, z24, z25, z26, z27, z28, z29, z30⟩
  have x4 := x3.trans y4
  have hR4 := hR.pre ((pJ.trans y3).trans y4)
  (repeat' first | simp -dsimp (disch := first | omega | assumption | (refine OkS.sto ?_ (by omega); first | assumption | (refine OkS.sto ?_ (by omega); first | assumption | (refine OkS.sto ?_ (by omega); first | assumption | (refine OkS.sto ?_ (by omega); first | assumption | (refine OkS.sto ?_ (by omega); first | assumption | (refine OkS.sto ?_ (by omega); first | assumption)))))) | exact Pfx.refl _ | (apply Pfx.snoc; repeat (first | exact Pfx.refl _ | assumption | apply Pfx.snoc)) | with_unfolding_all exact of_eq_true (eq_true rfl) | (simp only [List.length_append, List.length_cons, List.length_nil]; omega)) only [↓wpre0, ↓wpre1, ↓reduceIte, Int.reduceToNat, Nat.reduceAdd, Nat.reduceMul, Nat.reduceEqDiff, wpost0, wpost1, wpost2, wpost3, wpost4, ite_self, ite_true, ite_false, if_true, if_false, xlen24, tze27, xst27, xld27, un_not, xcv2_35, blt_cpx, xcv35_39, xcv2_39, bin_fadd, bin_fgtr, xfad27_0, xld2, bin_quo, xfad27_1, xbld27_0_1, bin_add, xbld51, xbld51_1, xbls24_0, xbls24_1, fr3, wrap_int, wrap_u8, iteP_yes, iteP_no, z0, z1, z7, z19, z24, z25, z26, z27, z28, z29, z30] | refine iteP_two (fun hc hd => ?_) (fun hc hd => ?_) | refine iteP_intro (fun hc => ?_) (fun hc => ?_))
  refine cf_rel (Mirror_c hX hR4 n1 n16 (by omega)) (fun q => by cases q) ?_
  rintro _ K5 ⟨mz, rfl, y5, hM⟩
  have lK5 := y5.len
  have x5 := x4.trans y5
  have hLI := hLZ.vsl.is
  have hLT : tyP ro K4 lz := fun _ => by
    obtain ⟨_, b, cap, rfl, _, hb2, _⟩ := hLZ
    show (K4[b]?).map Blk.ty = _
    rw [hb2]; rfl
  have k5 : PW ro K5 lz fz n (grL n 20 0 n) f := ⟨line20 n1 n16, ⟨_, _, lK5, hLI.pre y5⟩, hLT.pre hLI (by omega) y5, ⟨_, hR4.pre y5⟩, fun i _ => hf i⟩
  have k6 : PW ro K5 lz mz n (grL n 20 0 n) (fun i => cjB (f (n - 1 - i))) := ⟨line20 n1 n16, ⟨_, _, lK5, hLI.pre y5⟩, hLT.pre hLI (by omega) y5, ⟨_, hM⟩, fun i _ => cjB_bd (hf _)⟩
  obtain ⟨w1, w2, w3⟩ := pat_mir (line20 n1 n16) hd (line_st u v) hf
  have hp3 := PowerAt_r (ro := ro) hX hA k5 hd (by omega)
  have hp4 := PowerAt_r (ro := ro) hX hA k6 hd (by omega)
  obtain ⟨pa, hpa⟩ : ∃ c, c = poF f (grL n 20 0 n) n u v := ⟨_, rfl⟩
  obtain ⟨pb, hpb⟩ : ∃ c, c = poF (fun i => cjB (f (n - 1 - i))) (grL n 20 0 n) n u v := ⟨_, rfl⟩
  rw [← hpa] at w1 w3 hp3
  rw [← hpb] at w2 w3 hp4
  have hnear := b10Near_r (ro := ro) hX m3 m4 m5 m6 K5
  have hgap := b10Gap_r (ro := ro) hX (wd pa) (wd pb) K5
  (repeat' first | simp -dsimp (disch := first | omega | assumption | (refine OkS.sto ?_ (by omega); first | assumption | (refine OkS.sto ?_ (by omega); first | assumption | (refine OkS.sto ?_ (by omega); first | assumption | (refine OkS.sto ?_ (by omega); first | assumption | (refine OkS.sto ?_ (by omega); first | assumption | (refine OkS.sto ?_ (by omega); first | assumption)))))) | exact Pfx.refl _ | (apply Pfx.snoc; repeat (first | exact Pfx.refl _ | assumption | apply Pfx.snoc)) | with_unfolding_all exact of_eq_true (eq_true rfl) | (simp only [List.length_append, List.length_cons, List.length_nil]; omega)) only [↓thenQ_normal, ↓thenQ_exit, ↓thenQ_ret, ↓blockQ_normal, ↓blockQ_exit, ↓blockQ_ret, ↓o_plain, ↓o_nil, ↓o_guard, ↓gvl_zero, ↓gvl_succ, ↓p_move, ↓p_assign, ↓p_pick, ↓p_binOp, ↓p_unOp, ↓wpre1, ↓reduceIte, Int.reduceToNat, Nat.reduceAdd, Nat.reduceMul, Nat.reduceEqDiff, wpost0, wpost1, wpost2, wpost3, wpost4, ite_self, ite_true, ite_false, if_true, if_false, xlen24, tze27, xst27, xld27, un_not, xcv2_35, blt_cpx, xcv35_39, xcv2_39, bin_fadd, bin_fgtr, xfad27_0, xld2, bin_quo, xfad27_1, xbld27_0_1, bin_add, xbld51, xbld51_1, xbls24_0, xbls24_1, fr3, wrap_int, wrap_u8, iteP_yes, iteP_no, z0, z1, z7, z19, z24, z25, z26, z27, z28, z29, z30] | refine iteP_two (fun hc hd => ?_) (fun hc hd => ?_) | refine iteP_intro (fun hc => ?_) (fun hc => ?_))
  refine env_cut (fun e h2 => h2 = K5 ∧ e 0 = x ∧ e 1 = y ∧ e 7 = .pointer (some ⟨H1.length, 0, none⟩) ∧ e 19 = fz ∧ e 24 = .bool true ∧ e 25 = toV mov ∧ e 26 = .bool true ∧ e 27 = toV ste ∧ e 28 = .bool true ∧ e 29 = lz ∧ e 30 = .bool true ∧ e 31 = mz ∧ e 32 = .bool true) ?_ ?_
  · simp only [updO_at, updO_not, entry_at, List.getD_cons_zero, List.getD_cons_succ, ↓reduceIte, Nat.reduceEqDiff, true_and, and_true]
    (repeat' (first | assumption | rfl | omega | exact z0 | exact z1 | exact z7 | exact z19 | exact z24 | exact z25 | exact z26 | exact z27 | exact z28 | exact z29 | exact z30 | refine And.intro ?_ ?_))
  clear z0 z1 z7 z19 z24 z25 z26 z27 z28 z29 z30
  rintro e K5 ⟨rfl, z0, z1, z7, z19, z24, z25, z26, z27, z28, z29, z30, z31, z32⟩
  (repeat' first | simp -dsimp (disch := first | omega | assumption | (refine OkS.sto ?_ (by omega); first | assumption | (refine OkS.sto ?_ (by omega); first | assumption | (refine OkS.sto ?_ (by omega); first | assumption | (refine OkS.sto ?_ (by omega); first | assumption | (refine OkS.sto ?_ (by omega); first | assumption | (refine OkS.sto ?_ (by omega); first | assumption)))))) | exact Pfx.refl _ | (apply Pfx.snoc; repeat (first | exact Pfx.refl _ | assumption | apply Pfx.snoc)) | with_unfolding_all exact of_eq_true (eq_true rfl) | (simp only [List.length_append, List.length_cons, List.length_nil]; omega)) only [↓wpre0, ↓wpre1, ↓reduceIte, Int.reduceToNat, Nat.reduceAdd, Nat.reduceMul, Nat.reduceEqDiff, wpost0, wpost1, wpost2, wpost3, wpost4, ite_self, ite_true, ite_false, if_true, if_false, xlen24, tze27, xst27, xld27, un_not, xcv2_35, blt_cpx, xcv35_39, xcv2_39, bin_fadd, bin_fgtr, xfad27_0, xld2, bin_quo, xfad27_1, xbld27_0_1, bin_add, xbld51, xbld51_1, xbls24_0, xbls24_1, fr3, wrap_int, wrap_u8, iteP_yes, iteP_no, z0, z1, z7, z19, z24, z25, z26, z27, z28, z29, z30, z31, z32, cD x5, hp3, hp4, hnear, hgap, cv_w w1, cv_w w2, w3] | refine iteP_two (fun hc hd => ?_) (fun hc hd => ?_) | refine iteP_intro (fun hc => ?_) (fun hc => ?_))
  refine cf_rel (Fine_c (n := 2) hW2 hX (mV x5) (by omega) (by omega) (by omega) (by omega)) (fun q => by cases q) ?_
  rintro gz K6 ⟨g, hg6, y6, hG6⟩
  have lK6 := y6.len
  have x6 := x5.trans y6
  (repeat' first | simp -dsimp (disch := first | omega | assumption | (refine OkS.sto ?_ (by omega); first | assumption | (refine OkS.sto ?_ (by omega); first | assumption | (refine OkS.sto ?_ (by omega); first | assumption | (refine OkS.sto ?_ (by omega); first | assumption | (refine OkS.sto ?_ (by omega); first | assumption | (refine OkS.sto ?_ (by omega); first | assumption)))))) | exact Pfx.refl _ | (apply Pfx.snoc; repeat (first | exact Pfx.refl _ | assumption | apply Pfx.snoc)) | with_unfolding_all exact of_eq_true (eq_true rfl) | (simp only [List.length_append, List.length_cons, List.length_nil]; omega)) only [↓thenQ_normal, ↓thenQ_exit, ↓thenQ_ret, ↓blockQ_normal, ↓blockQ_exit, ↓blockQ_ret, ↓o_plain, ↓o_nil, ↓o_guard, ↓gvl_zero, ↓gvl_succ, ↓p_move, ↓p_assign, ↓p_pick, ↓p_binOp, ↓p_unOp, ↓wpre1, ↓reduceIte, Int.reduceToNat, Nat.reduceAdd, Nat.reduceMul, Nat.reduceEqDiff, wpost0, wpost1, wpost2, wpost3, wpost4, ite_self, ite_true, ite_false, if_true, if_false, xlen24, tze27, xst27, xld27, un_not, xcv2_35, blt_cpx, xcv35_39, xcv2_39, bin_fadd, bin_fgtr, xfad27_0, xld2, bin_quo, xfad27_1, xbld27_0_1, bin_add, xbld51, xbld51_1, xbls24_0, xbls24_1, fr3, wrap_int, wrap_u8, iteP_yes, iteP_no, z0, z1, z7] | refine iteP_two (fun hc hd => ?_) (fun hc hd => ?_) | refine iteP_intro (fun hc => ?_) (fun hc => ?_))
  refine env_cut (fun e h2 => h2 = K6 ∧ e 1 = y ∧ e 7 = .pointer (some ⟨H1.length, 0, none⟩) ∧ e 37 = gz) ?_ ?_
  · simp only [updO_at, updO_not, entry_at, List.getD_cons_zero, List.getD_cons_succ, ↓reduceIte, Nat.reduceEqDiff, true_and, and_true]
    (repeat' (first | assumption | rfl | omega | exact z1 | exact z7 | refine And.intro ?_ ?_))
  clear z0 z1 z7 z19 z24 z25 z26 z27 z28 z29 z30 z31 z32 hp3 hp4 hnear hgap w1 w2 w3
  clear hpa hpb
  clear k5 k6 hM hLI hLT hLZ m1 m2 m3 m4 m5 m6 hmov hste k3 hsz hK hR hR4
  rintro e K6 ⟨rfl, z1, z7, z37⟩
  (repeat' first | simp -dsimp (disch := first | omega | assumption | (refine OkS.sto ?_ (by omega); first | assumption | (refine OkS.sto ?_ (by omega); first | assumption | (refine OkS.sto ?_ (by omega); first | assumption | (refine OkS.sto ?_ (by omega); first | assumption | (refine OkS.sto ?_ (by omega); first | assumption | (refine OkS.sto ?_ (by omega); first | assumption)))))) | exact Pfx.refl _ | (apply Pfx.snoc; repeat (first | exact Pfx.refl _ | assumption | apply Pfx.snoc)) | with_unfolding_all exact of_eq_true (eq_true rfl) | (simp only [List.length_append, List.length_cons, List.length_nil]; omega)) only [↓wpre0, ↓wpre1, ↓reduceIte, Int.reduceToNat, Nat.reduceAdd, Nat.reduceMul, Nat.reduceEqDiff, wpost0, wpost1, wpost2, wpost3, wpost4, ite_self, ite_true, ite_false, if_true, if_false, xlen24, tze27, xst27, xld27, un_not, xcv2_35, blt_cpx, xcv35_39, xcv2_39, bin_fadd, bin_fgtr, xfad27_0, xld2, bin_quo, xfad27_1, xbld27_0_1, bin_add, xbld51, xbld51_1, xbls24_0, xbls24_1, fr3, wrap_int, wrap_u8, iteP_yes, iteP_no, z1, z7, z37] | refine iteP_two (fun hc hd => ?_) (fun hc hd => ?_) | refine iteP_intro (fun hc => ?_) (fun hc => ?_))
  refine cf_rel (Fine_c (n := 3) hW2 hX (mU x6) (by omega) (by omega) (by omega) (by omega)) (fun q => by cases q) ?_
  rintro fz' K7 ⟨f', hf7, y7, hF7⟩
  have lK7 := y7.len
  have x7 := x6.trans y7
  have hG7 := hG6.pre y7
  obtain ⟨m1, m2, m3, m4, m5, m6, m7⟩ := pat_out (u := u) (v := v) grid6 row3 two2 hd (grid_st u v) hf7 hg6
  obtain ⟨ca, hca⟩ : ∃ c, c = ptF (fun t => mulB (f' (t % 3)) (g (t / 3))) (grL 3 24 30 6) 6 u v := ⟨_, rfl⟩
  obtain ⟨cb, hcb⟩ : ∃ c, c = ptF f' (grL 3 24 0 3) 3 u v := ⟨_, rfl⟩
  obtain ⟨cc, hcc⟩ : ∃ c, c = ptF g [0, 0, 0, 30] 2 u v := ⟨_, rfl⟩
  rw [← hca] at m4 m6 m7
  rw [← hcb] at m3 m5 m6 m7
  rw [← hcc] at m3 m5 m6 m7
  obtain ⟨cd', hcd⟩ : ∃ c, c = mulB cb cc := ⟨_, rfl⟩
  rw [← hcd] at m5 m6 m7
  (repeat' first | simp -dsimp (disch := first | omega | assumption | (refine OkS.sto ?_ (by omega); first | assumption | (refine OkS.sto ?_ (by omega); first | assumption | (refine OkS.sto ?_ (by omega); first | assumption | (refine OkS.sto ?_ (by omega); first | assumption | (refine OkS.sto ?_ (by omega); first | assumption | (refine OkS.sto ?_ (by omega); first | assumption)))))) | exact Pfx.refl _ | (apply Pfx.snoc; repeat (first | exact Pfx.refl _ | assumption | apply Pfx.snoc)) | with_unfolding_all exact of_eq_true (eq_true rfl) | (simp only [List.length_append, List.length_cons, List.length_nil]; omega)) only [↓wpre0, ↓wpre1, ↓reduceIte, Int.reduceToNat, Nat.reduceAdd, Nat.reduceMul, Nat.reduceEqDiff, wpost0, wpost1, wpost2, wpost3, wpost4, ite_self, ite_true, ite_false, if_true, if_false, xlen24, tze27, xst27, xld27, un_not, xcv2_35, blt_cpx, xcv35_39, xcv2_39, bin_fadd, bin_fgtr, xfad27_0, xld2, bin_quo, xfad27_1, xbld27_0_1, bin_add, xbld51, xbld51_1, xbls24_0, xbls24_1, fr3, wrap_int, wrap_u8, iteP_yes, iteP_no, z1, z7, z37] | refine iteP_two (fun hc hd => ?_) (fun hc hd => ?_) | refine iteP_intro (fun hc => ?_) (fun hc => ?_))
  refine cf_rel (Outer_c (p := 3) (q := 2) hX hF7 hG7 (by decide) (by decide) (by decide) (by decide) (by decide) m1 (by omega)) (fun q => by cases q) ?_
  rintro _ K8 ⟨oz, rfl, y8, hO⟩
  have lK8 := y8.len
  have x8 := x7.trans y8
  (repeat' first | simp -dsimp (disch := first | omega | assumption | (refine OkS.sto ?_ (by omega); first | assumption | (refine OkS.sto ?_ (by omega); first | assumption | (refine OkS.sto ?_ (by omega); first | assumption | (refine OkS.sto ?_ (by omega); first | assumption | (refine OkS.sto ?_ (by omega); first | assumption | (refine OkS.sto ?_ (by omega); first | assumption)))))) | exact Pfx.refl _ | (apply Pfx.snoc; repeat (first | exact Pfx.refl _ | assumption | apply Pfx.snoc)) | with_unfolding_all exact of_eq_true (eq_true rfl) | (simp only [List.length_append, List.length_cons, List.length_nil]; omega)) only [↓thenQ_normal, ↓thenQ_exit, ↓thenQ_ret, ↓blockQ_normal, ↓blockQ_exit, ↓blockQ_ret, ↓o_plain, ↓o_nil, ↓o_guard, ↓gvl_zero, ↓gvl_succ, ↓p_move, ↓p_assign, ↓p_pick, ↓p_binOp, ↓p_unOp, ↓wpre1, ↓reduceIte, Int.reduceToNat, Nat.reduceAdd, Nat.reduceMul, Nat.reduceEqDiff, wpost0, wpost1, wpost2, wpost3, wpost4, ite_self, ite_true, ite_false, if_true, if_false, xlen24, tze27, xst27, xld27, un_not, xcv2_35, blt_cpx, xcv35_39, xcv2_39, bin_fadd, bin_fgtr, xfad27_0, xld2, bin_quo, xfad27_1, xbld27_0_1, bin_add, xbld51, xbld51_1, xbls24_0, xbls24_1, fr3, wrap_int, wrap_u8, iteP_yes, iteP_no, z1, z7, z37] | refine iteP_two (fun hc hd => ?_) (fun hc hd => ?_) | refine iteP_intro (fun hc => ?_) (fun hc => ?_))
  refine env_cut (fun e h2 => h2 = K8 ∧ e 7 = .pointer (some ⟨H1.length, 0, none⟩) ∧ e 37 = gz ∧ e 38 = fz' ∧ e 39 = oz ∧ e 40 = .bool true) ?_ ?_
  · simp only [updO_at, updO_not, entry_at, List.getD_cons_zero, List.getD_cons_succ, ↓reduceIte, Nat.reduceEqDiff, true_and, and_true]
    (repeat' (first | assumption | rfl | omega | exact z1 | exact z7 | exact z37 | refine And.intro ?_ ?_))
  clear z1 z7 z37
  rintro e K8 ⟨rfl, z7, z37, z38, z39, z40⟩
  (repeat' first | simp -dsimp (disch := first | omega | assumption | (refine OkS.sto ?_ (by omega); first | assumption | (refine OkS.sto ?_ (by omega); first | assumption | (refine OkS.sto ?_ (by omega); first | assumption | (refine OkS.sto ?_ (by omega); first | assumption | (refine OkS.sto ?_ (by omega); first | assumption | (refine OkS.sto ?_ (by omega); first | assumption)))))) | exact Pfx.refl _ | (apply Pfx.snoc; repeat (first | exact Pfx.refl _ | assumption | apply Pfx.snoc)) | with_unfolding_all exact of_eq_true (eq_true rfl) | (simp only [List.length_append, List.length_cons, List.length_nil]; omega)) only [↓wpre0, ↓wpre1, ↓reduceIte, Int.reduceToNat, Nat.reduceAdd, Nat.reduceMul, Nat.reduceEqDiff, wpost0, wpost1, wpost2, wpost3, wpost4, ite_self, ite_true, ite_false, if_true, if_false, xlen24, tze27, xst27, xld27, un_not, xcv2_35, blt_cpx, xcv35_39, xcv2_39, bin_fadd, bin_fgtr, xfad27_0, xld2, bin_quo, xfad27_1, xbld27_0_1, bin_add, xbld51, xbld51_1, xbls24_0, xbls24_1, fr3, wrap_int, wrap_u8, iteP_yes, iteP_no, z7, z37, z38, z39, z40] | refine iteP_two (fun hc hd => ?_) (fun hc hd => ?_) | refine iteP_intro (fun hc => ?_) (fun hc => ?_))
  refine cf_rel (Grid_c (n := 6) (c := 3) (r := 2) (dx := 24) (dy := 30) hX (by decide) (by decide) (by decide) (by decide) (by decide) (by decide) (by decide) grid6 (by omega)) (fun q => by cases q) ?_
  rintro _ K9 ⟨q9, rfl, y9, hZ9⟩
  have lK9 := y9.len
  have x9 := x8.trans y9
  (repeat' first | simp -dsimp (disch := first | omega | assumption | (refine OkS.sto ?_ (by omega); first | assumption | (refine OkS.sto ?_ (by omega); first | assumption | (refine OkS.sto ?_ (by omega); first | assumption | (refine OkS.sto ?_ (by omega); first | assumption | (refine OkS.sto ?_ (by omega); first | assumption | (refine OkS.sto ?_ (by omega); first | assumption)))))) | exact Pfx.refl _ | (apply Pfx.snoc; repeat (first | exact Pfx.refl _ | assumption | apply Pfx.snoc)) | with_unfolding_all exact of_eq_true (eq_true rfl) | (simp only [List.length_append, List.length_cons, List.length_nil]; omega)) only [↓wpre0, ↓wpre1, ↓reduceIte, Int.reduceToNat, Nat.reduceAdd, Nat.reduceMul, Nat.reduceEqDiff, wpost0, wpost1, wpost2, wpost3, wpost4, ite_self, ite_true, ite_false, if_true, if_false, xlen24, tze27, xst27, xld27, un_not, xcv2_35, blt_cpx, xcv35_39, xcv2_39, bin_fadd, bin_fgtr, xfad27_0, xld2, bin_quo, xfad27_1, xbld27_0_1, bin_add, xbld51, xbld51_1, xbls24_0, xbls24_1, fr3, wrap_int, wrap_u8, iteP_yes, iteP_no, z7, z37, z38, z39, z40] | refine iteP_two (fun hc hd => ?_) (fun hc hd => ?_) | refine iteP_intro (fun hc => ?_) (fun hc => ?_))
  refine cf_rel (Row_c (c := 3) (s := 24) hX (by decide) (by decide) (by decide) row3 (by omega)) (fun q => by cases q) ?_
  rintro _ K10 ⟨q10, rfl, y10, hZ10⟩
  have lK10 := y10.len
  have x10 := x9.trans y10
  have i9 := hZ9.vsl.is
  have t9 : tyP ro K9 q9 := fun _ => by
    obtain ⟨_, b, cap, rfl, _, hb2, _⟩ := hZ9
    show (K9[b]?).map Blk.ty = _
    rw [hb2]; rfl
  have i10 := hZ10.vsl.is
  have t10 : tyP ro K10 q10 := fun _ => by
    obtain ⟨_, b, cap, rfl, _, hb2, _⟩ := hZ10
    show (K10[b]?).map Blk.ty = _
    rw [hb2]; rfl
  have k9 : PG ro K10 q9 oz 6 (grL 3 24 30 6) (fun t => mulB (f' (t % 3)) (g (t / 3))) := ⟨grid6, ⟨_, _, lK10, i9.pre y10⟩, t9.pre i9 (by omega) y10, ⟨_, hO.pre (y9.trans y10)⟩⟩
  have k10 : PW ro K10 q10 fz' 3 (grL 3 24 0 3) f' := ⟨row3, ⟨_, _, Nat.le_refl _, i10⟩, t10, ⟨_, hF7.pre ((y8.trans y9).trans y10)⟩, fun i _ => hf7 i⟩
  obtain ⟨K11, hK11⟩ : ∃ K, K = K10 ++ [(⟨51, [.int .i64 0, .int .i64 0, .int .i64 0, .int .i64 30]⟩ : Blk)] := ⟨_, rfl⟩
  have y11 : Pfx K10 K11 := by rw [hK11]; exact (Pfx.refl _).snoc
  have lK11 : K11.length = K10.length + 1 := by rw [hK11]; simp
  have d11 : K11[K10.length]? = some ⟨51, [.int .i64 0, .int .i64 0, .int .i64 0, .int .i64 30]⟩ := by rw [hK11]; exact get_last rfl
  have i11 : ∀ cp, IS K10.length (K10.length + 1) 2 K11 (.slice (some ⟨K10.length, 0, none⟩) 2 cp) 2 [0, 0, 0, 30] := fun cp => is_blk (dc := cp) (l := [0, 0, 0, 30]) d11 rfl
  have k11 : ∀ cp, PW ro K11 (.slice (some ⟨K10.length, 0, none⟩) 2 cp) gz 2 [0, 0, 0, 30] g := fun cp => ⟨two2, ⟨_, _, by omega, i11 cp⟩, fun _ => by show (K11[K10.length]?).map Blk.ty = _; rw [d11]; rfl, ⟨_, hG7.pre (((y8.trans y9).trans y10).trans y11)⟩, fun i _ => hg6 i⟩
  have hp1 := PatG_r (ro := ro) hX hA k9 hd m2 (by omega)
  have hp2 := PatternAt_r (ro := ro) hX hA k10 hd (by omega)
  have hp3 := fun cp => PatternAt_r (ro := ro) hX hA (k11 cp) hd (by omega)
  rw [← hca] at hp1
  rw [← hcb] at hp2
  rw [← hcc] at hp3
  have hmul := MulS_r (ro := ro) hX m3 K11
  rw [← hcd] at hmul
  have hnear := b10Near_r (ro := ro) hX m4 m5 m6 m7 K11
  rw [hK11] at hp3 hmul hnear
  have cDK : cells K10 H1.length 0 2 = some (.agg ⟨[.int .i64 u, .int .i64 v]⟩) := cD x10
  have ltK : H1.length < K10.length := by omega
  (repeat' first | simp -dsimp (disch := first | omega | assumption | (refine OkS.sto ?_ (by omega); first | assumption | (refine OkS.sto ?_ (by omega); first | assumption | (refine OkS.sto ?_ (by omega); first | assumption | (refine OkS.sto ?_ (by omega); first | assumption | (refine OkS.sto ?_ (by omega); first | assumption | (refine OkS.sto ?_ (by omega); first | assumption)))))) | exact Pfx.refl _ | (apply Pfx.snoc; repeat (first | exact Pfx.refl _ | assumption | apply Pfx.snoc)) | with_unfolding_all exact of_eq_true (eq_true rfl) | (simp only [List.length_append, List.length_cons, List.length_nil]; omega)) only [↓wpre0, ↓wpre1, ↓reduceIte, Int.reduceToNat, Nat.reduceAdd, Nat.reduceMul, Nat.reduceEqDiff, wpost0, wpost1, wpost2, wpost3, wpost4, ite_self, ite_true, ite_false, if_true, if_false, xlen24, tze27, xst27, xld27, un_not, xcv2_35, blt_cpx, xcv35_39, xcv2_39, bin_fadd, bin_fgtr, xfad27_0, xld2, bin_quo, xfad27_1, xbld27_0_1, bin_add, xbld51, xbld51_1, xbls24_0, xbls24_1, fr3, wrap_int, wrap_u8, iteP_yes, iteP_no, z7, z37, z38, z39, z40, cDK, hp1, hp2, litP2, hp3, hmul, hnear] | refine iteP_two (fun hc hd => ?_) (fun hc hd => ?_) | refine iteP_intro (fun hc => ?_) (fun hc => ?_))
theorem lawP_c (hV : VS lo hi 1 h x cd.length (cd.map u8v)) (hU : VS lo' hi' 1 h y md.length (md.map u8v)) (hhi : hi ≤ h.length) (hhi' : hi' ≤ h.length) (hro : ro ≤ h.length) (hl : cd.length ≤ 140737488351232) (hl' : md.length ≤ 140737488351232) :
    CallR Try.prog ro (xE1 ro) 3 [x, y] h (fun r h' => r = .bool true) :=
  lawPat_c (xn_E1 ro) rfl rfl xn_E0 (xw_E xn_E0) ⟨rfl, rfl⟩ rfl (xw_E (xn_E1 ro)) hV hU hhi hhi' hro hl hl'
end Go.Proofs.Ytkhipobafchilaa.Sim
