/- Phasors as whole numbers: their lengths, and one step farther. Lemmas only; no condition. -/
import Derived.Test.YtkhipobafchilaaPht
import Derived.Test.YtkhipobafchilaaSqt
import Derived.Test.YtkhipobafchilaaSimN
import Derived.Test.YtkhipobafchilaaSkc
set_option linter.unusedSimpArgs false
set_option linter.unusedVariables false
set_option maxRecDepth 8000
namespace Go.Proofs.Ytkhipobafchilaa.Sim.Fl
open Ieee Go
/-- What bits of a wide float are worth, in units of 2 ^ -64. -/
def wOf (b : Nat) : Nat := if b = 0 then 0 else (4503599627370496 + b % 4503599627370496) * 2 ^ (b / 4503599627370496 - 1011)
theorem wOf_fin {b : Nat} (h1 : 1011 ≤ b / 4503599627370496) (h2 : b / 4503599627370496 < 2047) : fin .f64 b ((wOf b : Nat) * 2 ^ 1010) := by
  have hb0 : b ≠ 0 := by rintro rfl; simp at h1
  have hB : FloatKind.f64.format.binade = 4503599627370496 := by decide
  have hS : FloatKind.f64.format.signWeight = 9223372036854775808 := by decide
  have hI : FloatKind.f64.format.infRung = 9218868437227405312 := by decide
  have hlt : b < 9218868437227405312 := by omega
  have hd : FloatKind.f64.decode b = .number false (4503599627370496 + b % 4503599627370496) (lp .f64 + (b / 4503599627370496 - 1 : Nat)) := by
    unfold FloatKind.decode Format.read
    have e1 : b / 9223372036854775808 = 0 := Nat.div_eq_of_lt (by omega)
    have e2 : b % 9223372036854775808 = b := Nat.mod_eq_of_lt (by omega)
    simp only [hS, e1, e2, hB, hI]
    rw [if_neg (by omega), if_pos hlt]
    rfl
  refine ⟨false, _, _, hd, ?_⟩
  unfold wOf
  rw [if_neg hb0]
  have e : b / 4503599627370496 - 1 = (b / 4503599627370496 - 1011) + 1010 := by omega
  rw [e]
  generalize b / 4503599627370496 - 1011 = q
  generalize 4503599627370496 + b % 4503599627370496 = m
  simp only [sg, Bool.false_eq_true, if_false]
  rw [Int.natCast_mul, Int.natCast_pow, Int.pow_add, Int.mul_assoc]
  rfl
end Go.Proofs.Ytkhipobafchilaa.Sim.Fl
namespace Go.Proofs.Ytkhipobafchilaa.Sim
open Go Go.RowKit Fl
/-- The sine of so many 4096ths of a turn, in units of 2 ^ -64. -/
def Wt (k : Nat) : Nat := wOf (sbT k)
def allK (f : Nat → Bool) : Nat → Nat → Bool
  | _, 0 => true
  | a, n + 1 => f a && allK f (a + 1) n
theorem allK_at {f : Nat → Bool} : ∀ {n a : Nat}, allK f a n = true → ∀ k, a ≤ k → k < a + n → f k = true
  | 0, a, _, k, h1, h2 => by omega
  | n + 1, a, h, k, h1, h2 => by
    simp only [allK, Bool.and_eq_true] at h
    by_cases e : k = a
    · rw [e]; exact h.1
    · exact allK_at h.2 k (by omega) (by omega)
/-- Bits in range; the length; one step farther. -/
def okK (k : Nat) : Bool := decide (1011 ≤ sbT (k + 1) / 4503599627370496) && decide (sbT (k + 1) / 4503599627370496 < 2047)
def dist (a b : Nat) : Nat := (a - b) + (b - a)
def t1K (k : Nat) : Bool := decide (dist (Wt k * Wt k + Wt (1024 - k) * Wt (1024 - k)) 340282366920938463463374607431768211456 ≤ 38685626227668133590597632) && decide (Wt k ≤ 18446744073710600192)
def t2K (k : Nat) : Bool := decide (dist (Wt (k + 1) * 18446744073709551616) (Wt k * Wt 1023 + Wt (1024 - k) * Wt 1) ≤ 19342813113834066795298816) && decide (dist (Wt (1023 - k) * 18446744073709551616 + Wt k * Wt 1) (Wt (1024 - k) * Wt 1023) ≤ 19342813113834066795298816)
theorem ok_all : allK okK 0 1024 = true := by kernel_rfl
theorem t1_all : allK t1K 0 1025 = true := by kernel_rfl
theorem t2_all : allK t2K 0 1024 = true := by kernel_rfl
end Go.Proofs.Ytkhipobafchilaa.Sim

/- Phasors as whole numbers: a turn by two steps is both turns, nearly. Lemmas only; no condition. -/
set_option linter.unusedVariables false
set_option linter.unusedSimpArgs false
set_option maxRecDepth 8000
namespace Go.Proofs.Ytkhipobafchilaa.Sim
/-- A pair, turned by quarters. -/
def rotX (q : Nat) (C S : Int) : Int := if q = 0 then C else if q = 1 then -S else if q = 2 then -C else S
def rotY (q : Nat) (C S : Int) : Int := if q = 0 then S else if q = 1 then C else if q = 2 then -S else -C
theorem neg_abs {a b : Int} {E : Nat} (h : a.natAbs ≤ E) (e : b = -a) : b.natAbs ≤ E := by rw [e, Int.natAbs_neg]; exact h
theorem rot_step {q E : Nat} {C S C' S' M c v : Int} (ha : (S' * M - (S * c + C * v)).natAbs ≤ E) (hb : (C' * M - (C * c - S * v)).natAbs ≤ E) : (rotX q C' S' * M - (rotX q C S * c - rotY q C S * v)).natAbs ≤ E ∧ (rotY q C' S' * M - (rotY q C S * c + rotX q C S * v)).natAbs ≤ E := by
  unfold rotX rotY
  by_cases q0 : q = 0
  · simp only [if_pos q0]; exact ⟨hb, ha⟩
  · simp only [if_neg q0]
    by_cases q1 : q = 1
    · simp only [if_pos q1]
      exact ⟨neg_abs ha (by simp only [Int.neg_mul]; omega), by
        have : C' * M - (C * c + -S * v) = C' * M - (C * c - S * v) := by simp only [Int.neg_mul]; omega
        rw [this]; exact hb⟩
    · simp only [if_neg q1]
      by_cases q2 : q = 2
      · simp only [if_pos q2]
        exact ⟨neg_abs hb (by simp only [Int.neg_mul]; omega), neg_abs ha (by simp only [Int.neg_mul]; omega)⟩
      · simp only [if_neg q2]
        exact ⟨by
          have : S' * M - (S * c - -C * v) = S' * M - (S * c + C * v) := by simp only [Int.neg_mul]; omega
          rw [this]; exact ha, neg_abs hb (by simp only [Int.neg_mul]; omega)⟩
theorem rot_next {q : Nat} (hq : q < 4) (a : Int) : rotX ((q + 1) % 4) a 0 = rotX q 0 a ∧ rotY ((q + 1) % 4) a 0 = rotY q 0 a := by
  have : q = 0 ∨ q = 1 ∨ q = 2 ∨ q = 3 := by omega
  rcases this with rfl | rfl | rfl | rfl <;> simp [rotX, rotY]
theorem rot_le {q E : Nat} {C S : Int} (hc : C.natAbs ≤ E) (hs : S.natAbs ≤ E) : (rotX q C S).natAbs ≤ E ∧ (rotY q C S).natAbs ≤ E := by
  unfold rotX rotY
  refine ⟨?_, ?_⟩ <;> (repeat' split) <;> (first | exact hc | exact hs | (rw [Int.natAbs_neg]; first | exact hc | exact hs))
/-- A sum of errors that is turned. -/
theorem turn_id (A' B A a b p r p' r' c v M : Int) : (A' * M - (a * p' - b * r')) * M = c * (A * M - (a * p - b * r)) - v * (B * M - (a * r + b * p)) + (M * (A' * M - (A * c - B * v)) - a * (p' * M - (p * c - r * v)) + b * (r' * M - (r * c + p * v))) := by grind
theorem turn_id2 (B' B A a b p r p' r' c v M : Int) : (B' * M - (a * r' + b * p')) * M = c * (B * M - (a * r + b * p)) + v * (A * M - (a * p - b * r)) + (M * (B' * M - (B * c + A * v)) - a * (r' * M - (r * c + p * v)) - b * (p' * M - (p * c - r * v))) := by grind
theorem turn_bd {D' D D2 c v a b d1 d3 d4 : Int} {w : Nat} (id : (D' * 18446744073709551616).natAbs = (c * D + v * D2 + (18446744073709551616 * d1 + a * d3 + b * d4)).natAbs) (hcv : c.natAbs + v.natAbs ≤ 18446744073709551616 + 36028797018963968) (hD : D.natAbs ≤ w) (hD2 : D2.natAbs ≤ w) (ha : a.natAbs ≤ 36893488147419103232) (hb : b.natAbs ≤ 36893488147419103232) (h1 : d1.natAbs ≤ 19342813113834066795298816) (h3 : d3.natAbs ≤ 19342813113834066795298816) (h4 : d4.natAbs ≤ 19342813113834066795298816) : (D'.natAbs + 79228162514264337593543950336) * 512 ≤ 513 * (w + 79228162514264337593543950336) := by
  have e1 : (D' * 18446744073709551616).natAbs = D'.natAbs * 18446744073709551616 := Int.natAbs_mul _ _
  have t1 : (c * D).natAbs ≤ c.natAbs * w := by rw [Int.natAbs_mul]; exact Nat.mul_le_mul_left _ hD
  have t2 : (v * D2).natAbs ≤ v.natAbs * w := by rw [Int.natAbs_mul]; exact Nat.mul_le_mul_left _ hD2
  have t3 : (18446744073709551616 * d1).natAbs ≤ 18446744073709551616 * 19342813113834066795298816 := by rw [Int.natAbs_mul]; exact Nat.mul_le_mul (Nat.le_refl _) h1
  have t4 : (a * d3).natAbs ≤ 36893488147419103232 * 19342813113834066795298816 := by rw [Int.natAbs_mul]; exact Nat.mul_le_mul ha h3
  have t5 : (b * d4).natAbs ≤ 36893488147419103232 * 19342813113834066795298816 := by rw [Int.natAbs_mul]; exact Nat.mul_le_mul hb h4
  have t6 : (c.natAbs + v.natAbs) * w ≤ (18446744073709551616 + 36028797018963968) * w := Nat.mul_le_mul_right _ hcv
  rw [Nat.add_mul] at t6
  have s1 := Int.natAbs_add_le (c * D + v * D2) (18446744073709551616 * d1 + a * d3 + b * d4)
  have s2 := Int.natAbs_add_le (c * D) (v * D2)
  have s3 := Int.natAbs_add_le (18446744073709551616 * d1 + a * d3) (b * d4)
  have s4 := Int.natAbs_add_le (18446744073709551616 * d1) (a * d3)
  rw [← id, e1] at s1
  generalize (c * D + v * D2).natAbs = y1 at *
  generalize (18446744073709551616 * d1 + a * d3 + b * d4).natAbs = y2 at *
  generalize (18446744073709551616 * d1 + a * d3).natAbs = y3 at *
  generalize (c * D).natAbs = y4 at *
  generalize (v * D2).natAbs = y5 at *
  generalize (18446744073709551616 * d1).natAbs = y6 at *
  generalize (a * d3).natAbs = y7 at *
  generalize (b * d4).natAbs = y8 at *
  generalize c.natAbs * w = y9 at *
  generalize v.natAbs * w = y10 at *
  generalize D'.natAbs = z at *
  omega
theorem pow_by {a b c d e m n k : Nat} (h : e * a ^ m ≤ c * b ^ m) (hn : n = m * k) (f : c ^ k ≤ d * e ^ k) (he : 0 < e) : a ^ n ≤ d * b ^ n := by
  have h1 := Nat.pow_le_pow_left h k
  rw [Nat.mul_pow, Nat.mul_pow, ← Nat.pow_mul, ← Nat.pow_mul, ← hn] at h1
  have h2 := Nat.le_trans h1 (Nat.mul_le_mul_right _ f)
  refine Nat.le_of_mul_le_mul_left ?_ (Nat.pow_pos (n := k) he)
  rw [← Nat.mul_assoc, Nat.mul_comm (e ^ k) d]
  exact h2
theorem pow_turn {N : Nat} (hN : N = 4096) : 2 ^ 97 * 513 ^ N ≤ 2 ^ 109 * 512 ^ N := by
  have h := pow_by (a := 513) (b := 512) (c := 5) (d := 4096) (e := 3) (m := 256) (n := N) (k := 16) (by decide +kernel) (by rw [hN]) (by decide) (by decide)
  have h2 := Nat.mul_le_mul_left (2 ^ 97) h
  rw [← Nat.mul_assoc] at h2
  exact h2
section turn
variable (W : Nat → Nat)
/-- The parts of a phasor, out of a table of a quarter. -/
def qX (s : Nat) : Int := rotX (s / 1024 % 4) (W (1024 - s % 1024)) (W (s % 1024))
def qY (s : Nat) : Int := rotY (s / 1024 % 4) (W (1024 - s % 1024)) (W (s % 1024))
/-- A table of a quarter that turns well. -/
structure Tab : Prop where
  w0 : W 0 = 0
  a : ∀ k, k < 1024 → ((W (k + 1) : Int) * 18446744073709551616 - ((W k : Int) * W 1023 + (W (1024 - k) : Int) * W 1)).natAbs ≤ 19342813113834066795298816
  b : ∀ k, k < 1024 → ((W (1023 - k) : Int) * 18446744073709551616 - ((W (1024 - k) : Int) * W 1023 - (W k : Int) * W 1)).natAbs ≤ 19342813113834066795298816
  le : ∀ k, k ≤ 1024 → W k ≤ 36893488147419103232
  one : ((W 1024 : Int) - 18446744073709551616).natAbs ≤ 1048576
  sum : W 1023 + W 1 ≤ 18446744073709551616 + 36028797018963968
end turn
section use
variable {W : Nat → Nat} (T : Tab W)
include T
theorem qX_le (s : Nat) : (qX W s).natAbs ≤ 36893488147419103232 ∧ (qY W s).natAbs ≤ 36893488147419103232 := by
  have h1 := T.le (s % 1024) (by omega)
  have h2 := T.le (1024 - s % 1024) (by omega)
  exact rot_le (by rw [Int.natAbs_natCast]; exact h2) (by rw [Int.natAbs_natCast]; exact h1)
/-- One step farther. -/
theorem q_step (s : Nat) : (qX W (s + 1) * 18446744073709551616 - (qX W s * W 1023 - qY W s * W 1)).natAbs ≤ 19342813113834066795298816 ∧ (qY W (s + 1) * 18446744073709551616 - (qY W s * W 1023 + qX W s * W 1)).natAbs ≤ 19342813113834066795298816 := by
  obtain ⟨r, hr⟩ : ∃ r, r = s % 1024 := ⟨_, rfl⟩
  obtain ⟨q, hq⟩ : ∃ q, q = s / 1024 % 4 := ⟨_, rfl⟩
  have hr1 : r < 1024 := by omega
  have ha := T.a r hr1
  have hb := T.b r hr1
  have key := rot_step (q := q) ha hb
  have eX : qX W (s + 1) = rotX q (W (1023 - r)) (W (r + 1)) ∧ qY W (s + 1) = rotY q (W (1023 - r)) (W (r + 1)) := by
    unfold qX qY
    by_cases hl : r = 1023
    · have e1 : (s + 1) % 1024 = 0 := by omega
      have e2 : (s + 1) / 1024 % 4 = (q + 1) % 4 := by omega
      have z0 : (W 0 : Int) = 0 := by rw [T.w0]; rfl
      rw [e1, e2, hl]
      have g1 : 1023 - 1023 = 0 := rfl
      have g2 : 1023 + 1 = 1024 := rfl
      have g3 : 1024 - 0 = 1024 := rfl
      rw [g1, g2, g3, z0]
      exact rot_next (by omega) _
    · have e1 : (s + 1) % 1024 = r + 1 := by omega
      have e2 : (s + 1) / 1024 % 4 = q := by omega
      rw [e1, e2, show 1024 - (r + 1) = 1023 - r by omega]
      exact ⟨rfl, rfl⟩
  have eY : qX W s = rotX q (W (1024 - r)) (W r) ∧ qY W s = rotY q (W (1024 - r)) (W r) := by
    unfold qX qY
    rw [← hr, ← hq]
    exact ⟨rfl, rfl⟩
  rw [eX.1, eX.2, eY.1, eY.2]
  exact key
/-- A turn by two steps is both turns. -/
theorem q_turn (s : Nat) : ∀ t : Nat, ∃ w : Nat, (qX W (s + t) * 18446744073709551616 - (qX W s * qX W t - qY W s * qY W t)).natAbs ≤ w ∧ (qY W (s + t) * 18446744073709551616 - (qX W s * qY W t + qY W s * qX W t)).natAbs ≤ w ∧ (w + 79228162514264337593543950336) * 512 ^ t ≤ 2 ^ 97 * 513 ^ t
  | 0 => by
    obtain ⟨x1, x2⟩ := qX_le T s
    have o := T.one
    have eX : qX W 0 = (W 1024 : Int) := rfl
    have eY : qY W 0 = 0 := by
      have : qY W 0 = (W 0 : Int) := rfl
      rw [this, T.w0]; rfl
    refine ⟨38685626227668133590597632, ?_, ?_, by rw [Nat.pow_zero]; decide⟩
    all_goals
      rw [Nat.add_zero, eX, eY]
      obtain ⟨d, hd⟩ : ∃ d : Int, d = (W 1024 : Int) - 18446744073709551616 := ⟨_, rfl⟩
      have ew : (W 1024 : Int) = 18446744073709551616 + d := by omega
      rw [← hd] at o
      have key : ∀ a : Int, a.natAbs ≤ 36893488147419103232 → (a * 18446744073709551616 - a * (W 1024 : Int)).natAbs ≤ 38685626227668133590597632 := by
        intro a ha
        have e : a * 18446744073709551616 - a * (W 1024 : Int) = -(a * d) := by rw [ew, Int.mul_add]; omega
        rw [e, Int.natAbs_neg, Int.natAbs_mul]
        exact Nat.le_trans (Nat.mul_le_mul ha o) (by decide)
      have k1 := key _ x1
      have k2 := key _ x2
      simp only [Int.mul_zero, Int.sub_zero, Int.zero_add, Int.add_zero]
      first | exact k1 | exact k2
  | t + 1 => by
    obtain ⟨w, i1, i2, i3⟩ := q_turn s t
    obtain ⟨d1, d2⟩ := q_step T (s + t)
    obtain ⟨d3, d4⟩ := q_step T t
    obtain ⟨x1, x2⟩ := qX_le T s
    have hsum : ((W 1023 : Int)).natAbs + ((W 1 : Int)).natAbs ≤ 18446744073709551616 + 36028797018963968 := by rw [Int.natAbs_natCast, Int.natAbs_natCast]; exact T.sum
    rw [show s + (t + 1) = s + t + 1 by omega]
    generalize qX W (s + t + 1) = A' at *
    generalize qY W (s + t + 1) = B' at *
    generalize qX W (s + t) = A at *
    generalize qY W (s + t) = B at *
    generalize qX W (t + 1) = p' at *
    generalize qY W (t + 1) = r' at *
    generalize qX W t = p at *
    generalize qY W t = r at *
    generalize qX W s = a at *
    generalize qY W s = b at *
    generalize (W 1023 : Int) = c at *
    generalize (W 1 : Int) = v at *
    have hv : c.natAbs + (-v).natAbs ≤ 18446744073709551616 + 36028797018963968 := by rw [Int.natAbs_neg]; exact hsum
    have nx1 : (-a).natAbs ≤ 36893488147419103232 := by rw [Int.natAbs_neg]; exact x1
    have nx2 : (-b).natAbs ≤ 36893488147419103232 := by rw [Int.natAbs_neg]; exact x2
    have g1 := turn_bd (D' := A' * 18446744073709551616 - (a * p' - b * r')) (D := A * 18446744073709551616 - (a * p - b * r)) (D2 := B * 18446744073709551616 - (a * r + b * p)) (c := c) (v := -v) (a := -a) (b := b) (w := w) (by rw [turn_id A' B A a b p r p' r' c v]; congr 1; simp only [Int.neg_mul]; omega) hv i1 i2 nx1 x2 d1 d3 d4
    have g2 := turn_bd (D' := B' * 18446744073709551616 - (a * r' + b * p')) (D := B * 18446744073709551616 - (a * r + b * p)) (D2 := A * 18446744073709551616 - (a * p - b * r)) (c := c) (v := v) (a := -a) (b := -b) (w := w) (by rw [turn_id2 B' B A a b p r p' r' c v]; congr 1; simp only [Int.neg_mul]; omega) hsum i2 i1 nx1 nx2 d2 d4 d3
    refine ⟨max (A' * 18446744073709551616 - (a * p' - b * r')).natAbs (B' * 18446744073709551616 - (a * r' + b * p')).natAbs, Nat.le_max_left _ _, Nat.le_max_right _ _, ?_⟩
    generalize (A' * 18446744073709551616 - (a * p' - b * r')).natAbs = z1 at *
    generalize (B' * 18446744073709551616 - (a * r' + b * p')).natAbs = z2 at *
    have g3 : (max z1 z2 + 79228162514264337593543950336) * 512 ≤ 513 * (w + 79228162514264337593543950336) := by
      rcases Nat.le_total z1 z2 with q | q
      · rw [Nat.max_eq_right q]; exact g2
      · rw [Nat.max_eq_left q]; exact g1
    generalize max z1 z2 + 79228162514264337593543950336 = z at *
    generalize w + 79228162514264337593543950336 = y at *
    rw [Nat.pow_succ, Nat.pow_succ]
    calc z * (512 ^ t * 512) = z * 512 * 512 ^ t := by rw [Nat.mul_comm (512 ^ t), Nat.mul_assoc]
      _ ≤ 513 * y * 512 ^ t := Nat.mul_le_mul_right _ g3
      _ = 513 * (y * 512 ^ t) := Nat.mul_assoc _ _ _
      _ ≤ 513 * (2 ^ 97 * 513 ^ t) := Nat.mul_le_mul_left _ i3
      _ = 2 ^ 97 * (513 ^ t * 513) := by rw [Nat.mul_comm 513, Nat.mul_assoc]
/-- .., within 2 ^ 109, for at most one whole turn. -/
theorem q_near (s : Nat) {t : Nat} (ht : t ≤ 4096) : (qX W (s + t) * 18446744073709551616 - (qX W s * qX W t - qY W s * qY W t)).natAbs ≤ 2 ^ 109 ∧ (qY W (s + t) * 18446744073709551616 - (qX W s * qY W t + qY W s * qX W t)).natAbs ≤ 2 ^ 109 := by
  obtain ⟨w, h1, h2, h3⟩ := q_turn T s t
  obtain ⟨N, hN⟩ : ∃ N, N = 4096 := ⟨_, rfl⟩
  have hw : w ≤ 2 ^ 109 := by
    have e1 : w * 512 ^ t ≤ 2 ^ 97 * 513 ^ t := Nat.le_trans (Nat.mul_le_mul_right _ (Nat.le_add_right _ _)) h3
    have e2 : w * 512 ^ t * 512 ^ (N - t) ≤ 2 ^ 97 * 513 ^ t * 513 ^ (N - t) := Nat.mul_le_mul e1 (Nat.pow_le_pow_left (by decide) _)
    rw [Nat.mul_assoc, Nat.mul_assoc, ← Nat.pow_add, ← Nat.pow_add, show t + (N - t) = N by omega] at e2
    exact Nat.le_of_mul_le_mul_right (Nat.le_trans e2 (pow_turn hN)) (Nat.pow_pos (by decide))
  exact ⟨Nat.le_trans h1 hw, Nat.le_trans h2 hw⟩
end use
end Go.Proofs.Ytkhipobafchilaa.Sim

/- How near phasors are to those of a table. Lemmas only; no condition. -/
set_option linter.unusedSimpArgs false
set_option linter.unusedVariables false
set_option maxRecDepth 8000
namespace Go.Proofs.Ytkhipobafchilaa.Sim
open Go Go.RowKit Fl
theorem dist_abs (a b : Nat) : ((a : Int) - (b : Int)).natAbs = dist a b := by unfold dist; omega
theorem wt_0 : Wt 0 = 0 := by decide +kernel
theorem wt_1024 : dist (Wt 1024) 18446744073709551616 ≤ 1048576 := by decide +kernel
theorem wt_sum : Wt 1023 + Wt 1 ≤ 18482772870728515584 := by decide +kernel
theorem tabW : Tab Wt where
  w0 := wt_0
  a := fun k hk => by
    have h := allK_at t2_all k (Nat.zero_le _) (by omega)
    unfold t2K at h
    simp only [Bool.and_eq_true, decide_eq_true_eq] at h
    have := h.1
    rw [← dist_abs] at this
    simp only [Int.natCast_add, Int.natCast_mul] at this
    exact this
  b := fun k hk => by
    have h := allK_at t2_all k (Nat.zero_le _) (by omega)
    unfold t2K at h
    simp only [Bool.and_eq_true, decide_eq_true_eq] at h
    have := h.2
    rw [← dist_abs] at this
    simp only [Int.natCast_add, Int.natCast_mul] at this
    have e : (Wt (1023 - k) : Int) * 18446744073709551616 - ((Wt (1024 - k) : Int) * Wt 1023 - (Wt k : Int) * Wt 1) = (Wt (1023 - k) : Int) * 18446744073709551616 + (Wt k : Int) * Wt 1 - (Wt (1024 - k) : Int) * Wt 1023 := by omega
    rw [e]
    exact this
  le := fun k hk => by
    have h := allK_at t1_all k (Nat.zero_le _) (by omega)
    unfold t1K at h
    simp only [Bool.and_eq_true, decide_eq_true_eq] at h
    exact Nat.le_trans h.2 (by decide)
  one := by
    have := wt_1024
    rw [← dist_abs] at this
    exact this
  sum := wt_sum
theorem wt_sq {k : Nat} (hk : k ≤ 1024) : ((Wt k : Int) * Wt k + (Wt (1024 - k) : Int) * Wt (1024 - k) - 340282366920938463463374607431768211456).natAbs ≤ 38685626227668133590597632 := by
  have h := allK_at t1_all k (Nat.zero_le _) (by omega)
  unfold t1K at h
  simp only [Bool.and_eq_true, decide_eq_true_eq] at h
  have := h.1
  rw [← dist_abs] at this
  simp only [Int.natCast_add, Int.natCast_mul] at this
  exact this
/-! ### Sines by their values -/
theorem cf_near {z : Int} (h : z.natAbs < 2 ^ 27) : cf .f64 (FloatKind.f64.nearest z) = FloatKind.f64.nearest z := by
  have := nearest_fx .f64 (n := z) (Nat.lt_of_lt_of_le h (by decide))
  have hn : (FloatKind.f64.decode (FloatKind.f64.nearest z)).isNaN = false := by
    cases q : (FloatKind.f64.decode (FloatKind.f64.nearest z)).isNaN with
    | false => rfl
    | true =>
      have e : cf .f64 (FloatKind.f64.nearest z) = nanOf .f64 := by unfold cf; rw [if_pos q]
      rw [e] at this
      have g := this.notNaN
      have : (FloatKind.f64.decode (nanOf .f64)).isNaN = true := by decide +kernel
      rw [this] at g
      cases g
  unfold cf
  rw [if_neg (by rw [hn]; decide)]
theorem q4096_in {k : Nat} (hk : k < 134217728) : in4096 (q4096 k) k ∧ q4096 k < 2 ^ 64 := by
  have h27 : (2 : Nat) ^ 27 = 134217728 := by decide
  have hb : ((k : Int)).natAbs < 2 ^ 27 := by rw [h27]; omega
  have e : q4096 k = stF k := by
    unfold q4096 stF
    rw [cf_near hb, show FloatKind.f64.nearest 4096 = 4661225614328463360 by decide +kernel]
  rw [e]
  exact ⟨stF_in hb, farith_lt _ _ _⟩
theorem frF_lt {x f : Nat} (h : frF x = some f) : f < 2 ^ 64 := by
  unfold frF at h
  simp only [Option.map_eq_some_iff] at h
  obtain ⟨n, hn, h⟩ := h
  rw [← h]
  split
  · exact farith_lt _ _ _
  · exact farith_lt _ _ _
theorem in_same {a b : Nat} {n : Int} (ha : in4096 a n) (hb : in4096 b n) (hn : n ≠ 0) (la : a < 2 ^ 64) (lb : b < 2 ^ 64) : a = b := by
  have hs : 2 * FloatKind.f64.format.signWeight = 2 ^ 64 := by decide
  refine fin_same ha hb ?_ (by rw [hs]; exact la) (by rw [hs]; exact lb)
  intro q
  rcases Int.mul_eq_zero.1 q with q | q
  · exact hn q
  · exact absurd q (Int.ne_of_gt (Fl.pow_pos _))
/-- A product with zero. -/
theorem mul_zero_fin {k : FloatKind} {a b : Nat} {v : Int} (ha : Fl.fin k a 0) (hb : Fl.fin k b v) : Fl.fin k (farith .mul k a b) 0 := by
  obtain ⟨w, h1, h2, h3⟩ := mul_err (u := 0) ha hb (by rw [Int.zero_mul]; exact Nat.zero_le _) (Nat.zero_le _)
  rw [Int.zero_mul, Int.sub_zero, Nat.zero_sub, Nat.add_zero, Int.natAbs_mul, abs_mul_pow] at h3
  have hp := Nat.two_pow_pos (-lp k).toNat
  have : w = 0 := by
    rcases Nat.eq_zero_or_pos w.natAbs with q | q
    · omega
    · have : 1 * 2 ^ (-lp k).toNat ≤ w.natAbs * 2 ^ (-lp k).toNat := Nat.mul_le_mul_right _ q
      have e : (2 : Int).natAbs = 2 := rfl
      rw [e] at h3
      omega
  rw [this] at h1
  exact h1
theorem sinG_zero {f : Nat} (h : in4096 f 0) : Fl.fin .f64 (sinG f) 0 := by
  have c1 : fcmp .leq .f64 fHalf f = false := by rw [in_le half_fin h]; exact decide_eq_false (by omega)
  have c2 : fcmp .lss .f64 fQuarter f = false := by rw [in_lt quarter_fin h]; exact decide_eq_false (by omega)
  have b0 := in_bd h (Int.le_refl 0) (by omega)
  unfold sinG
  simp only [c1, c2, Bool.false_eq_true, if_false]
  have hf0 : Fl.fin .f64 f 0 := by unfold in4096 at h; rw [Int.zero_mul] at h; exact h
  obtain ⟨vf, hvf, _⟩ := full_bd
  have z := mul_zero_fin hf0 hvf
  have z2 := mul_zero_fin z z
  have bu : bd .f64 1076 (farith .mul .f64 (farith .mul .f64 f fFull) (farith .mul .f64 f fFull)) := z2.bd (Nat.zero_le _)
  obtain ⟨vp, hvp, _⟩ := pj_last bu
  exact mul_zero_fin z hvp
/-- The sine of so many 4096ths of a turn is the one of the table. -/
theorem sn_val {x n : Nat} (hx : in4096 x n) (hn : n ≤ 1024) : Fl.fin .f64 (snF x) ((Wt n : Nat) * 2 ^ 1010) := by
  obtain ⟨f, hf, hs, _⟩ := sn_ok hx (by omega) (by omega)
  rw [hs]
  obtain ⟨f', hf', hi⟩ := frF_in hx (by have h27 : (2 : Nat) ^ 27 = 134217728 := by decide
                                        rw [h27]; omega)
  rw [hf] at hf'
  cases hf'
  have e : (n : Int) % 4096 = n := by omega
  rw [e] at hi
  by_cases h0 : n = 0
  · subst h0
    have ez : ((Wt 0 : Nat) : Int) * 2 ^ 1010 = 0 := by rw [wt_0]; exact Int.zero_mul _
    rw [ez]
    exact sinG_zero hi
  · obtain ⟨q1, q2⟩ := q4096_in (k := n) (by omega)
    have ef : f = q4096 n := in_same hi q1 (by omega) (frF_lt hf) q2
    rw [ef, sb_ok n hn]
    obtain ⟨j, rfl⟩ : ∃ j, n = j + 1 := ⟨n - 1, by omega⟩
    have h := allK_at ok_all j (Nat.zero_le _) (by omega)
    unfold okK at h
    simp only [Bool.and_eq_true, decide_eq_true_eq] at h
    exact wOf_fin h.1 h.2
end Go.Proofs.Ytkhipobafchilaa.Sim

/- Phasors are near to those of a table; products of what is near. Lemmas only; no condition. -/
set_option linter.unusedSimpArgs false
set_option linter.unusedVariables false
set_option maxRecDepth 8000
namespace Go.Proofs.Ytkhipobafchilaa.Sim
open Go Go.RowKit Fl
theorem sub_zero_fin {k : FloatKind} {a b : Nat} {v : Int} (ha : Fl.fin k a 0) (hb : Fl.fin k b v) : Fl.fin k (farith .sub k a b) (-v) := by
  obtain ⟨s, m, e, d, hv⟩ := id hb
  obtain ⟨hm, e', he, hl⟩ := read_mag d
  have : e' = e := by omega
  subst this
  have habs : (sg s m).natAbs = m := sg_abs s m
  have hT : m * 2 ^ e' < 2 ^ top k := by
    refine Nat.lt_of_lt_of_le (Nat.mul_lt_mul_of_pos_right hm (Nat.two_pow_pos _)) ?_
    rw [← Nat.pow_add]
    refine Nat.pow_le_pow_right (by decide) ?_
    cases k
    · have h1 : FloatKind.f32.format.exponentBits = 8 := rfl
      have h2 : top .f32 = 277 := rfl
      have h3 : dig .f32 = 24 := rfl
      rw [h1] at hl
      omega
    · have h1 : FloatKind.f64.format.exponentBits = 11 := rfl
      have h2 : top .f64 = 2098 := rfl
      have h3 : dig .f64 = 53 := rfl
      rw [h1] at hl
      omega
  have ha' : Fl.fin k a (0 * 2 ^ e') := by rw [Int.zero_mul]; exact ha
  rw [hv] at hb ⊢
  have := sub_fx ha' hb (by rw [Int.zero_sub, Int.natAbs_neg, habs]; exact hm) (by rw [Int.zero_sub, Int.natAbs_neg, habs]; exact hT)
  rw [Int.zero_sub] at this
  rw [← Int.neg_mul]
  exact this
/-- A narrow float that is near to a number, told in units of 2 ^ -64. -/
def nearP (b : Nat) (X : Int) (E : Nat) : Prop := ∃ v, Fl.fin .f32 b v ∧ (v - X * 2 ^ 85).natAbs ≤ E * 2 ^ 85
structure nearC (c : CB) (X Y : Int) (E : Nat) : Prop where
  a : nearP c.a X E
  b : nearP c.b Y E
theorem pow_split2 {a b c : Nat} (h : a = b + c) : (2 : Int) ^ a = 2 ^ b * 2 ^ c := by rw [h, Int.pow_add]
/-- A wide float, narrowed. -/
theorem pow_two_mul {a b n : Nat} (h : n = a + b + 1) : 2 ^ n = 2 * (2 ^ a * 2 ^ b) := by rw [h, Nat.pow_succ, Nat.pow_add, Nat.mul_comm]
theorem nr_near0 {b u : Nat} {v : Int} (hu : u = 150) (hb : Fl.fin .f64 b v) (hV : v.natAbs ≤ 2 ^ (u + 925)) : okN b ∧ ∃ w, Fl.fin .f32 (nr b) w ∧ (w * 2 ^ 925 - v).natAbs ≤ 2 ^ 126 * 2 ^ 925 := by
  obtain ⟨r, w, h1, h2, h3, h4⟩ := narrow_err (u := u) hb hV (by omega)
  obtain ⟨k1, k2⟩ := okN_of h1
  refine ⟨k1, w, by rw [k2]; exact h2, ?_⟩
  rw [Int.natAbs_mul] at h4
  obtain ⟨K, hK⟩ : ∃ K : Nat, K = 2 ^ 126 * 2 ^ 925 := ⟨_, rfl⟩
  have e2 : (2 : Nat) ^ (925 + (u - 23)) = 2 * K := by
    rw [hK]
    exact pow_two_mul (a := 126) (b := 925) (n := 925 + (u - 23)) (by omega)
  rw [← hK]
  rw [e2] at h4
  have e3 : (2 : Int).natAbs = 2 := rfl
  rw [e3] at h4
  exact Nat.le_of_mul_le_mul_left h4 (by decide)
theorem scale_le {v X : Int} {E c d : Nat} (h : (v * 2 ^ c - X * 2 ^ (d + c)).natAbs ≤ E * 2 ^ c) : (v - X * 2 ^ d).natAbs ≤ E := by
  have e : v * 2 ^ c - X * 2 ^ (d + c) = (v - X * 2 ^ d) * 2 ^ c := by rw [Int.pow_add, Int.sub_mul, Int.mul_assoc]
  rw [e, abs_mul_pow] at h
  exact Nat.le_of_mul_le_mul_right h (Nat.two_pow_pos c)
theorem nr_near {b : Nat} {V : Int} (hb : Fl.fin .f64 b (V * 2 ^ 1010)) (hV : V.natAbs ≤ 2 ^ 65) : okN b ∧ nearP (nr b) V (2 ^ 41) := by
  obtain ⟨u, hu⟩ : ∃ u, u = 150 := ⟨_, rfl⟩
  obtain ⟨c, hc⟩ : ∃ c, c = 1010 := ⟨_, rfl⟩
  rw [← hc] at hb
  obtain ⟨k1, w, h2, h4⟩ := nr_near0 hu hb (by rw [abs_mul_pow]; exact mul_pow_le (n := u + 925) (b := 65) (m := c) hV (by omega))
  refine ⟨k1, w, h2, ?_⟩
  have e : c = 85 + 925 := by omega
  rw [e] at h4
  have h5 := scale_le h4
  rw [← Nat.pow_add]
  exact h5
/-- Steps as a number below 4096. -/
def stM (s : Int) : Nat := (s % 4096).toNat
theorem PH_near {s : Int} (hs : s.natAbs < 2 ^ 27) : nearC (PH s) (qX Wt (stM s)) (qY Wt (stM s)) (2 ^ 41) := by
  obtain ⟨f, hf, hi⟩ := frF_in (stF_in hs) hs
  have h27 : (2 : Nat) ^ 27 = 134217728 := by decide
  rw [h27] at hs
  have e : (frF (stF s)).getD 0 = f := by rw [hf]; rfl
  have hN : stM s < 4096 := by unfold stM; omega
  have en : s % 4096 = (stM s : Int) := by unfold stM; omega
  have hP : PH s = phB f (stM s / 1024) := by unfold PH; rw [e]; rfl
  rw [hP]
  rw [en] at hi
  generalize stM s = N at *
  obtain ⟨q, hq⟩ : ∃ q, q = N / 1024 := ⟨_, rfl⟩
  obtain ⟨r, hr⟩ : ∃ r, r = N % 1024 := ⟨_, rfl⟩
  have hg := fq_in hi (by omega) (by omega) q (by omega)
  have eg : (N : Int) - 1024 * (q : Int) = ((r : Nat) : Int) := by omega
  rw [eg] at hg
  have h40 : (2 : Nat) ^ 40 = 1099511627776 := by decide
  have hc := in_sub quarter_fin hg (by rw [h40]; omega)
  have ec : ((1024 : Nat) : Int) - ((r : Nat) : Int) = ((1024 - r : Nat) : Int) := by omega
  rw [ec] at hc
  have S := sn_val hg (by omega)
  have C := sn_val hc (by omega)
  have lS := tabW.le r (by omega)
  have lC := tabW.le (1024 - r) (by omega)
  have e65 : (36893488147419103232 : Nat) = 2 ^ 65 := by decide
  rw [e65] at lS lC
  have nS : ((Wt r : Nat) : Int).natAbs ≤ 2 ^ 65 := by rw [Int.natAbs_natCast]; exact lS
  have nC : ((Wt (1024 - r) : Nat) : Int).natAbs ≤ 2 ^ 65 := by rw [Int.natAbs_natCast]; exact lC
  have mS : (-((Wt r : Nat) : Int)).natAbs ≤ 2 ^ 65 := by rw [Int.natAbs_neg]; exact nS
  have mC : (-((Wt (1024 - r) : Nat) : Int)).natAbs ≤ 2 ^ 65 := by rw [Int.natAbs_neg]; exact nC
  have zS := sub_zero_fin zero_fin64 S
  have zC := sub_zero_fin zero_fin64 C
  rw [← Int.neg_mul] at zS zC
  have p1 := (nr_near S nS).2
  have p2 := (nr_near C nC).2
  have p3 := (nr_near zS mS).2
  have p4 := (nr_near zC mC).2
  have eX : qX Wt N = rotX q (Wt (1024 - r)) (Wt r) ∧ qY Wt N = rotY q (Wt (1024 - r)) (Wt r) := by
    unfold qX qY
    rw [← hr, show N / 1024 % 4 = q by omega]
    exact ⟨rfl, rfl⟩
  rw [eX.1, eX.2, ← hq]
  unfold phB rotX rotY
  by_cases q0 : q = 0
  · simp only [if_pos q0]; exact ⟨p2, p1⟩
  · simp only [if_neg q0]
    by_cases q1 : q = 1
    · simp only [if_pos q1]; exact ⟨p3, p2⟩
    · simp only [if_neg q1]
      by_cases q2 : q = 2
      · simp only [if_pos q2]; exact ⟨p4, p3⟩
      · simp only [if_neg q2]; exact ⟨p1, p4⟩
/-! ### Products of what is near -/
theorem nearP.mono {b : Nat} {X : Int} {E F : Nat} (h : nearP b X E) (hf : E ≤ F) : nearP b X F := by
  obtain ⟨v, h1, h2⟩ := h
  exact ⟨v, h1, Nat.le_trans h2 (Nat.mul_le_mul_right _ hf)⟩
theorem nearC.mono {c : CB} {X Y : Int} {E F : Nat} (h : nearC c X Y E) (hf : E ≤ F) : nearC c X Y F := ⟨h.a.mono hf, h.b.mono hf⟩
/-- A wide float near to a number in units of 2 ^ -64 times 2 ^ -64. -/
def near2 (b : Nat) (P : Int) (E : Nat) : Prop := ∃ v, Fl.fin .f64 b v ∧ (v - P * 2 ^ 946).natAbs ≤ E * 2 ^ 946 ∧ v.natAbs ≤ 2 ^ 1079
theorem abs_prod {va vb X Y : Int} {p q r s : Nat} (h1 : (va - X).natAbs ≤ p) (h2 : (vb - Y).natAbs ≤ q) (hY : vb.natAbs ≤ r) (hX : X.natAbs ≤ s) : (va * vb - X * Y).natAbs ≤ p * r + s * q := by
  have e : va * vb - X * Y = (va - X) * vb + X * (vb - Y) := by rw [Int.sub_mul, Int.mul_sub]; omega
  rw [e]
  refine Nat.le_trans (Int.natAbs_add_le _ _) ?_
  rw [Int.natAbs_mul, Int.natAbs_mul]
  exact Nat.add_le_add (Nat.mul_le_mul h1 hY) (Nat.mul_le_mul hX h2)
theorem mul_pow2 {a b c : Nat} (h : a + b = c) : 2 ^ a * 2 ^ b ≤ 2 ^ c := by rw [← Nat.pow_add, h]; exact Nat.le_refl _
theorem abs_sum {v Y : Int} {p q r : Nat} (h1 : (v - Y).natAbs ≤ p) (h2 : Y.natAbs ≤ q) (h3 : p + q ≤ r) : v.natAbs ≤ r := by
  have e : v = (v - Y) + Y := by omega
  rw [e]
  exact Nat.le_trans (Int.natAbs_add_le _ _) (Nat.le_trans (Nat.add_le_add h1 h2) h3)
theorem near_abs {v X : Int} {E : Nat} (h : (v - X * 2 ^ 85).natAbs ≤ E * 2 ^ 85) (hX : X.natAbs ≤ 2 ^ 65) (hE : E ≤ 2 ^ 50) : v.natAbs ≤ 2 ^ 151 :=
  abs_sum h (by rw [abs_mul_pow]; exact Nat.mul_le_mul_right _ hX) (Nat.le_trans (Nat.add_le_add_right (Nat.mul_le_mul_right _ hE) _) (by decide))
theorem prod_abs {va vb X Y : Int} {E F c : Nat} (hc : c = 302) (ea : (va - X * 2 ^ 85).natAbs ≤ E * 2 ^ 85) (eb : (vb - Y * 2 ^ 85).natAbs ≤ F * 2 ^ 85) (hX : X.natAbs ≤ 2 ^ 65) (hY : Y.natAbs ≤ 2 ^ 65) (hE : E ≤ 2 ^ 50) (hF : F ≤ 2 ^ 50) : (va * vb - X * Y * 2 ^ 170).natAbs ≤ E * 2 ^ 236 + F * 2 ^ 235 ∧ (va * vb).natAbs ≤ 2 ^ c := by
  have bA := near_abs ea hX hE
  have bB := near_abs eb hY hF
  have h := abs_prod ea eb bB (show (X * 2 ^ 85).natAbs ≤ 2 ^ 65 * 2 ^ 85 by rw [abs_mul_pow]; exact Nat.mul_le_mul_right _ hX)
  have e : X * 2 ^ 85 * (Y * 2 ^ 85) = X * Y * 2 ^ 170 := by
    rw [pow_split2 (show 170 = 85 + 85 from rfl)]
    simp only [Int.mul_assoc, Int.mul_left_comm]
  rw [e] at h
  have e1 : E * 2 ^ 85 * 2 ^ 151 = E * 2 ^ 236 := by rw [Nat.mul_assoc, ← Nat.pow_add]
  have e2 : 2 ^ 65 * 2 ^ 85 * (F * 2 ^ 85) = F * 2 ^ 235 := by
    rw [← Nat.pow_add, Nat.mul_comm, Nat.mul_assoc, ← Nat.pow_add]
  rw [e1, e2] at h
  refine ⟨h, ?_⟩
  rw [Int.natAbs_mul]
  exact Nat.le_trans (Nat.mul_le_mul bA bB) (mul_pow2 (a := 151) (b := 151) (c := c) (by omega))
/-- The same, with exponents that are told apart. -/
theorem prod_core {p Q R : Int} {N D m w : Nat} {B : Nat} (hN : D + D = m + N) (h : (2 * (p * 2 ^ N - Q * 2 ^ D * 2 ^ D)).natAbs ≤ 2 ^ (N + (w + 1))) (hQ : (Q - R).natAbs ≤ B) : (p - R * 2 ^ m).natAbs ≤ 2 ^ w + B * 2 ^ m := by
  have e : Q * 2 ^ D * 2 ^ D = Q * 2 ^ m * 2 ^ N := by rw [Int.mul_assoc, ← Int.pow_add, hN, Int.pow_add, Int.mul_assoc]
  have e2 : 2 * (p * 2 ^ N - Q * 2 ^ m * 2 ^ N) = (p - Q * 2 ^ m) * 2 ^ (N + 1) := by
    rw [Int.pow_succ, ← Int.sub_mul, Int.mul_comm (2 : Int), Int.mul_assoc]
  rw [e, e2, abs_mul_pow] at h
  have e3 : (2 : Nat) ^ (N + (w + 1)) = 2 ^ w * 2 ^ (N + 1) := by rw [← Nat.pow_add]; congr 1; omega
  rw [e3] at h
  have h1 := Nat.le_of_mul_le_mul_right h (Nat.two_pow_pos _)
  have e4 : p - R * 2 ^ m = (p - Q * 2 ^ m) + (Q - R) * 2 ^ m := by rw [Int.sub_mul]; omega
  rw [e4]
  refine Nat.le_trans (Int.natAbs_add_le _ _) (Nat.add_le_add h1 ?_)
  rw [abs_mul_pow]
  exact Nat.mul_le_mul_right _ hQ
/-- A wide product of two narrow floats. -/
theorem prod_near {a b : Nat} {X Y : Int} {E F m D : Nat} (hm : m = 776) (hD : D = 925) (ha : nearP a X E) (hb : nearP b Y F) (hX : X.natAbs ≤ 2 ^ 65) (hY : Y.natAbs ≤ 2 ^ 65) (hE : E ≤ 2 ^ 50) (hF : F ≤ 2 ^ 50) : okW a ∧ okW b ∧ ∃ p, Fl.fin .f64 (farith .mul .f64 (wd a) (wd b)) p ∧ (p - X * Y * 2 ^ 170 * 2 ^ m).natAbs ≤ 2 ^ (m + 249) + (E * 2 ^ 236 + F * 2 ^ 235) * 2 ^ m ∧ p.natAbs ≤ 2 ^ (m + 302) := by
  obtain ⟨va, hva, ea⟩ := ha
  obtain ⟨vb, hvb, eb⟩ := hb
  obtain ⟨c, hc⟩ : ∃ c, c = 302 := ⟨_, rfl⟩
  obtain ⟨q1, q2⟩ := prod_abs hc ea eb hX hY hE hF
  have wa := wd_fin hva
  have wb := wd_fin hvb
  rw [← hD] at wa wb
  have hN : (-lp .f64).toNat = 1074 := by decide
  have okw : ∀ {c : Nat} {v : Int}, Fl.fin .f32 c v → okW c := fun hc => by
    obtain ⟨r, h1, _⟩ := widen_fin hc
    exact (okW_of h1).1
  obtain ⟨p, h1, h2, h3⟩ := mul_err (u := m + 302) wa wb (by
    have e : va * 2 ^ D * (vb * 2 ^ D) = va * vb * 2 ^ (D + D) := by rw [Int.pow_add]; simp only [Int.mul_assoc, Int.mul_left_comm]
    rw [e, abs_mul_pow]
    exact mul_pow_le (n := m + 302 + (-lp .f64).toNat) (b := c) (m := D + D) q2 (by rw [hN]; omega)) (by rw [mx64]; omega)
  refine ⟨okw hva, okw hvb, p, h1, ?_, h2⟩
  have hf : FloatKind.f64.format.fractionBits = 52 := rfl
  rw [hf] at h3
  have e : va * 2 ^ D * (vb * 2 ^ D) = va * vb * 2 ^ D * 2 ^ D := by simp only [Int.mul_assoc, Int.mul_left_comm]
  rw [e, show m + 302 - 52 = (m + 249) + 1 by omega] at h3
  exact prod_core (by rw [hN]; omega) h3 q1
theorem abs_tri {x y z : Int} {p q : Nat} (h1 : (x - y).natAbs ≤ p) (h2 : (y - z).natAbs ≤ q) : (x - z).natAbs ≤ p + q := by
  have e : x - z = (x - y) + (y - z) := by omega
  rw [e]
  exact Nat.le_trans (Int.natAbs_add_le _ _) (Nat.add_le_add h1 h2)
theorem abs_sub2 {x y X Y : Int} {p q : Nat} (h1 : (x - X).natAbs ≤ p) (h2 : (y - Y).natAbs ≤ q) : (x - y - (X - Y)).natAbs ≤ p + q := by
  have e : x - y - (X - Y) = (x - X) + -(y - Y) := by omega
  rw [e]
  refine Nat.le_trans (Int.natAbs_add_le _ _) (Nat.add_le_add h1 ?_)
  rw [Int.natAbs_neg]; exact h2
theorem abs_add2 {x y X Y : Int} {p q : Nat} (h1 : (x - X).natAbs ≤ p) (h2 : (y - Y).natAbs ≤ q) : (x + y - (X + Y)).natAbs ≤ p + q := by
  have e : x + y - (X + Y) = (x - X) + (y - Y) := by omega
  rw [e]
  exact Nat.le_trans (Int.natAbs_add_le _ _) (Nat.add_le_add h1 h2)
theorem half_le {x : Int} {n : Nat} (h : (2 * x).natAbs ≤ 2 ^ (n + 1)) : x.natAbs ≤ 2 ^ n := by
  rw [Int.natAbs_mul, Nat.pow_succ, Nat.mul_comm (2 ^ n)] at h
  exact Nat.le_of_mul_le_mul_left h (by decide)
/-- The last step of a part of a product: a wide number near to T, narrowed. -/
theorem part_near {b m D c : Nat} {s R T : Int} (hc : c = 279) (hm : m = 776) (hD : D = 925) (hb : Fl.fin .f64 b s) (hs : (s - R * 2 ^ 170 * 2 ^ m).natAbs ≤ 2 ^ c * 2 ^ m) (hT : (T * 2 ^ 64 - R).natAbs ≤ 2 ^ 109) (hT2 : T.natAbs ≤ 2 ^ 64 + 2 ^ 40) : okN b ∧ nearP (nr b) T (2 ^ 47) := by
  obtain ⟨c3, hc3⟩ : ∃ c, c = 279 := ⟨_, rfl⟩
  have h1 : (R * 2 ^ 170 * 2 ^ m - T * 2 ^ 85 * 2 ^ D).natAbs ≤ 2 ^ c3 * 2 ^ m := by
    have e : T * 2 ^ 85 * 2 ^ D = T * 2 ^ 64 * 2 ^ 170 * 2 ^ m := by
      rw [Int.mul_assoc, Int.mul_assoc (T * 2 ^ 64), Int.mul_assoc T, ← Int.pow_add, ← Int.pow_add, ← Int.pow_add]
      congr 2
      omega
    have e2 : R * 2 ^ 170 * 2 ^ m - T * 2 ^ 85 * 2 ^ D = -((T * 2 ^ 64 - R) * 2 ^ 170 * 2 ^ m) := by
      rw [e, Int.sub_mul, Int.sub_mul]; omega
    rw [e2, Int.natAbs_neg, abs_mul_pow, abs_mul_pow]
    exact Nat.mul_le_mul_right _ (Nat.le_trans (Nat.mul_le_mul_right _ hT) (mul_pow2 (a := 109) (b := 170) (c := c3) (by omega)))
  have h2 := abs_tri hs h1
  have h3 : 2 ^ c * 2 ^ m + 2 ^ c3 * 2 ^ m ≤ 2 ^ 131 * 2 ^ D := by
    have e1 : 2 ^ c * 2 ^ m ≤ 2 ^ c3 * 2 ^ m := Nat.mul_le_mul_right _ (Nat.pow_le_pow_right (by decide) (by omega))
    have e2 : 2 ^ c3 * 2 ^ m + 2 ^ c3 * 2 ^ m = 2 ^ 131 * 2 ^ D := by
      rw [← Nat.pow_add, ← Nat.pow_add, ← Nat.two_mul, ← Nat.pow_succ', show (c3 + m).succ = 131 + D by omega]
    rw [← e2]
    exact Nat.add_le_add_right e1 _
  have h4 := Nat.le_trans h2 h3
  have hsb : s.natAbs ≤ 2 ^ (150 + D) := by
    refine abs_sum h4 (q := (2 ^ 64 + 2 ^ 40) * 2 ^ 85 * 2 ^ D) (by rw [abs_mul_pow, abs_mul_pow]; exact Nat.mul_le_mul_right _ (Nat.mul_le_mul_right _ hT2)) ?_
    rw [← Nat.add_mul, Nat.pow_add]
    exact Nat.mul_le_mul_right _ (by decide)
  obtain ⟨u, hu⟩ : ∃ u, u = 150 := ⟨_, rfl⟩
  obtain ⟨k1, w, w1, w2⟩ := nr_near0 hu hb (by rw [hu, ← hD]; exact hsb)
  refine ⟨k1, w, w1, ?_⟩
  rw [← hD] at w2
  have w3 := abs_tri w2 h4
  rw [← Nat.add_mul] at w3
  have e : w * 2 ^ D - T * 2 ^ 85 * 2 ^ D = (w - T * 2 ^ 85) * 2 ^ D := (Int.sub_mul _ _ _).symm
  rw [e, abs_mul_pow] at w3
  exact Nat.le_trans (Nat.le_of_mul_le_mul_right w3 (Nat.two_pow_pos D)) (by decide)
theorem two_gen {E F a b a' b' m k : Nat} (h1 : a = a' + k) (h2 : b = b' + k) : (E * 2 ^ a + F * 2 ^ b) * 2 ^ m = (E * 2 ^ a' + F * 2 ^ b') * 2 ^ (m + k) := by
  rw [h1, h2, Nat.pow_add 2 a' k, Nat.pow_add 2 b' k, Nat.pow_add 2 m k, Nat.add_mul, Nat.add_mul]
  simp only [Nat.mul_assoc, Nat.mul_comm, Nat.mul_left_comm]
theorem one_gen {a b m k : Nat} (h : b = a + k) : 2 ^ b * 2 ^ m = 2 ^ a * 2 ^ (m + k) := by rw [h, Nat.pow_add, Nat.pow_add, Nat.mul_assoc, Nat.mul_comm (2 ^ k)]
theorem one_gen2 {a b m k : Nat} (h : b = a + k) : 2 ^ (m + b) = 2 ^ a * 2 ^ (m + k) := by rw [← Nat.pow_add]; congr 1; omega
theorem sum_gen {x y X Y A C R : Nat} (hx : x ≤ X) (hy : y ≤ Y) (h : A + (X + Y) + (A + (X + Y)) + C ≤ R) : A + (x + y) + (A + (x + y)) + C ≤ R := by omega
theorem sum_tot {A B P Q C R K p : Nat} (e1 : P = A * K) (e3 : Q = B * K) (e2 : C = p * K) (h : A + B + (A + B) + p ≤ R) : P + Q + (P + Q) + C ≤ R * K := by
  rw [e1, e2, e3, ← Nat.add_mul, ← Nat.add_mul, ← Nat.add_mul]
  exact Nat.mul_le_mul_right _ h
theorem small_num : 2 ^ 49 + (2 ^ 41 * 2 ^ 36 + 2 ^ 41 * 2 ^ 35) + (2 ^ 49 + (2 ^ 41 * 2 ^ 36 + 2 ^ 41 * 2 ^ 35)) + 2 ^ 50 ≤ 2 ^ 79 := by decide
theorem small_sum {E F m c : Nat} (hc : c = 279) (hE : E ≤ 2 ^ 41) (hF : F ≤ 2 ^ 41) : 2 ^ (m + 249) + (E * 2 ^ 236 + F * 2 ^ 235) * 2 ^ m + (2 ^ (m + 249) + (E * 2 ^ 236 + F * 2 ^ 235) * 2 ^ m) + 2 ^ (m + 250) ≤ 2 ^ c * 2 ^ m := by
  rw [one_gen (a := 79) (b := c) (m := m) (k := 200) (by omega)]
  exact sum_tot (one_gen2 (a := 49) (b := 249) (k := 200) rfl) (two_gen (a := 236) (b := 235) (a' := 36) (b' := 35) (k := 200) rfl rfl) (one_gen2 (a := 50) (b := 250) (k := 200) rfl) (sum_gen (Nat.mul_le_mul_right (2 ^ 36) hE) (Nat.mul_le_mul_right (2 ^ 35) hF) small_num)
/-- A product of complex numbers that are near to two pairs is near to a third pair, if that is nearly the product. -/
theorem mul_near {c d : CB} {X1 Y1 X2 Y2 T U : Int} {E F : Nat} (hc : nearC c X1 Y1 E) (hd : nearC d X2 Y2 F) (x1 : X1.natAbs ≤ 2 ^ 65) (y1 : Y1.natAbs ≤ 2 ^ 65) (x2 : X2.natAbs ≤ 2 ^ 65) (y2 : Y2.natAbs ≤ 2 ^ 65) (hE : E ≤ 2 ^ 41) (hF : F ≤ 2 ^ 41) (hT : (T * 2 ^ 64 - (X1 * X2 - Y1 * Y2)).natAbs ≤ 2 ^ 109) (hU : (U * 2 ^ 64 - (X1 * Y2 + Y1 * X2)).natAbs ≤ 2 ^ 109) (hT2 : T.natAbs ≤ 2 ^ 64 + 2 ^ 40) (hU2 : U.natAbs ≤ 2 ^ 64 + 2 ^ 40) : okM c d ∧ nearC (mulB c d) T U (2 ^ 47) := by
  obtain ⟨m, hm⟩ : ∃ m, m = 776 := ⟨_, rfl⟩
  obtain ⟨D, hD⟩ : ∃ D, D = 925 := ⟨_, rfl⟩
  have hE' : E ≤ 2 ^ 50 := Nat.le_trans hE (by decide)
  have hF' : F ≤ 2 ^ 50 := Nat.le_trans hF (by decide)
  obtain ⟨w1, w2, p1, f1, n1, b1⟩ := prod_near hm hD hc.a hd.a x1 x2 hE' hF'
  obtain ⟨w3, w4, p2, f2, n2, b2⟩ := prod_near hm hD hc.b hd.b y1 y2 hE' hF'
  obtain ⟨_, _, p3, f3, n3, b3⟩ := prod_near hm hD hc.a hd.b x1 y2 hE' hF'
  obtain ⟨_, _, p4, f4, n4, b4⟩ := prod_near hm hD hc.b hd.a y1 x2 hE' hF'
  have hf : FloatKind.f64.format.fractionBits = 52 := rfl
  have two : ∀ {a b : Nat}, a ≤ 2 ^ (m + 302) → b ≤ 2 ^ (m + 302) → a + b ≤ 2 ^ (m + 303) := fun ha hb => by
    rw [show m + 303 = (m + 302) + 1 by omega, Nat.pow_succ]; omega
  obtain ⟨s, g1, g2, g3⟩ := sub_err (u := m + 303) f1 f2 (Nat.le_trans (by have := Int.natAbs_sub_le p1 p2; exact this) (two b1 b2)) (by rw [mx64]; omega)
  obtain ⟨r, k1, k2, k3⟩ := add_err (u := m + 303) f3 f4 (Nat.le_trans (Int.natAbs_add_le p3 p4) (two b3 b4)) (by rw [mx64]; omega)
  rw [hf, show m + 303 - 52 = (m + 250) + 1 by omega] at g3 k3
  have g4 := abs_sub2 n1 n2
  have k4 := abs_add2 n3 n4
  have g5 := abs_tri (half_le g3) g4
  have k5 := abs_tri (half_le k3) k4
  have eg : X1 * X2 * 2 ^ 170 * 2 ^ m - Y1 * Y2 * 2 ^ 170 * 2 ^ m = (X1 * X2 - Y1 * Y2) * 2 ^ 170 * 2 ^ m := by rw [Int.sub_mul, Int.sub_mul]
  have ek : X1 * Y2 * 2 ^ 170 * 2 ^ m + Y1 * X2 * 2 ^ 170 * 2 ^ m = (X1 * Y2 + Y1 * X2) * 2 ^ 170 * 2 ^ m := by rw [Int.add_mul, Int.add_mul]
  rw [eg] at g5
  rw [ek] at k5
  obtain ⟨c0, hc0⟩ : ∃ c, c = 279 := ⟨_, rfl⟩
  have sm := small_sum (m := m) hc0 hE hF
  have A := part_near hc0 hm hD (b := mre c d) g1 (Nat.le_trans g5 (by rw [Nat.add_comm]; exact sm)) hT hT2
  have B := part_near hc0 hm hD (b := mim c d) k1 (Nat.le_trans k5 (by rw [Nat.add_comm]; exact sm)) hU hU2
  exact ⟨⟨⟨w1, w3⟩, ⟨w2, w4⟩, A.1, B.1⟩, ⟨A.2, B.2⟩⟩
end Go.Proofs.Ytkhipobafchilaa.Sim
