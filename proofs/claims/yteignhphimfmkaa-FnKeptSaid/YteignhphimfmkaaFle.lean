/- Exact arithmetic of floats: numbers that a float kind has, as whole numbers over a power of two. Lemmas only; no condition. -/
import Derived.Test.YteignhphimfmkaaSimA
import Derived.Test.YteignhphimfmkaaIee
set_option linter.unusedSimpArgs false
set_option linter.unusedVariables false
namespace Go.Proofs.Yteignhphimfmkaa.Sim.Fl
open Ieee Go
abbrev lp (k : FloatKind) : Int := k.format.leastPlace
def sg (s : Bool) (m : Nat) : Int := if s then -(m : Int) else m
/-- A finite float: its value in units of the least one. -/
def fin (k : FloatKind) (b : Nat) (v : Int) : Prop := ∃ (s : Bool) (m e : Nat), k.decode b = .number s m (lp k + e) ∧ v = sg s m * 2 ^ e
theorem fine (k : FloatKind) : Fine k.format := by cases k; exact fine_single; exact fine_double
theorem signed_eq (s : Bool) (m up : Nat) : signed s m up = sg s m * 2 ^ up := by
  unfold signed sg
  rw [Nat.shiftLeft_eq]
  cases s
  · simp
  · simp [Int.neg_mul]
theorem sg_abs (s : Bool) (m : Nat) : (sg s m).natAbs = m := by unfold sg; split <;> simp
theorem fin.notNaN {k : FloatKind} {b : Nat} {v : Int} (h : fin k b v) : (k.decode b).isNaN = false := by
  obtain ⟨s, m, e, h1, _⟩ := h
  rw [h1]; rfl
theorem fin.cf {k : FloatKind} {b : Nat} {v : Int} (h : fin k b v) : cf k b = b := by
  unfold Sim.cf
  rw [h.notNaN]
  rfl
theorem fin.uniq {k : FloatKind} {b : Nat} {v w : Int} (h : fin k b v) (g : fin k b w) : v = w := by
  obtain ⟨s, m, e, h1, rfl⟩ := h
  obtain ⟨s', m', e', g1, rfl⟩ := g
  rw [h1, Datum.number.injEq] at g1
  obtain ⟨rfl, rfl, e3⟩ := g1
  have : e = e' := by omega
  subst this
  rfl
/-- The greatest exponents, with some room. -/
def top (k : FloatKind) : Nat := match k with | .f32 => 277 | .f64 => 2098
def dig (k : FloatKind) : Nat := match k with | .f32 => 24 | .f64 => 53
theorem dig_bin (k : FloatKind) : 2 ^ dig k = 2 * k.format.binade := by cases k <;> decide
/-- A number that the kind has, written. -/
theorem write_exact (k : FloatKind) (neg : Bool) {mag N a b t : Nat} {place : Int} (h : mag * 2 ^ a = N * 2 ^ b) (hp : place - a = lp k + t - b) (hN : N < 2 ^ dig k) (hT : N * 2 ^ t < 2 ^ top k) : fin k (k.encode (.number neg mag place)) (sg neg N * 2 ^ t) := by
  by_cases hN0 : N = 0
  · subst hN0
    have hm : mag = 0 := by
      rw [Nat.zero_mul] at h
      rcases Nat.mul_eq_zero.1 h with q | q
      · exact q
      · exact absurd q (Nat.ne_of_gt (Nat.two_pow_pos a))
    subst hm
    refine ⟨neg, 0, 0, ?_, by simp [sg]⟩
    show k.format.read (k.format.nearest neg 0 place) = _
    unfold Format.nearest
    rw [if_pos rfl]
    have := read_word k.format neg (e := 0) (kept := 0) (by have := binade_pos k.format; omega) (.inl rfl) (by cases k <;> decide)
    simpa using this
  · have hl : N.log2 + t < top k := by
      rw [← log2_mul_pow t hN0]
      exact (Nat.log2_lt (Nat.mul_ne_zero hN0 (Nat.ne_of_gt (Nat.two_pow_pos t)))).2 hT
    obtain ⟨kept, e, h1, h2, h3⟩ := nearest_exact (fine k) neg (mag := mag) (N := N) (a := a) (b := b) (place := place) (p := lp k + t) h (by omega) (by omega) (by rw [← dig_bin]; exact hN) (by show lp k ≤ lp k + (t : Int); omega) (by
      cases k
      · have : (top .f32) = 277 := rfl
        have e1 : (FloatKind.f32.format.fractionBits : Int) = 23 := rfl
        have e2 : (2 : Int) ^ FloatKind.f32.format.exponentBits = 256 := rfl
        rw [e1, e2]
        show (lp .f32 + t) + _ - 23 - lp .f32 + 3 ≤ 256
        omega
      · have : (top .f64) = 2098 := rfl
        have e1 : (FloatKind.f64.format.fractionBits : Int) = 52 := rfl
        have e2 : (2 : Int) ^ FloatKind.f64.format.exponentBits = 2048 := rfl
        rw [e1, e2]
        show (lp .f64 + t) + _ - 52 - lp .f64 + 3 ≤ 2048
        omega)
    refine ⟨neg, kept, e, h1, ?_⟩
    have he : e ≤ t := by have : (lp k : Int) + e ≤ lp k + t := h2; omega
    have e3 : (lp k + t - (k.format.leastPlace + e)).toNat = t - e := by show (lp k + t - (lp k + e)).toNat = _; omega
    rw [e3] at h3
    have e4 : (sg neg kept : Int) = sg neg N * 2 ^ (t - e) := by
      rw [h3]; unfold sg
      split <;> simp [Int.neg_mul]
    rw [e4, Int.mul_assoc, ← Int.pow_add]
    congr 2; omega
theorem pow_pos (t : Nat) : (0 : Int) < 2 ^ t := Int.pow_pos (by decide)
theorem abs_mul_pow (n : Int) (t : Nat) : (n * 2 ^ t).natAbs = n.natAbs * 2 ^ t := by
  rw [Int.natAbs_mul, Int.natAbs_pow]; rfl
theorem sg_of (n : Int) {neg : Bool} (h : n ≠ 0 → neg = decide (n < 0)) : sg neg n.natAbs = n := by
  unfold sg
  by_cases h0 : n = 0
  · subst h0; simp
  · rw [h h0]
    by_cases h1 : n < 0
    · simp [h1]; omega
    · simp [h1]; omega
/-- A sum of two data that the kind has. -/
theorem sum_exact {k : FloatKind} {s1 s2 : Bool} {m1 m2 e1 e2 t : Nat} {n m : Int} (h1 : sg s1 m1 * 2 ^ e1 = n * 2 ^ t) (h2 : sg s2 m2 * 2 ^ e2 = m * 2 ^ t) (h : (n + m).natAbs < 2 ^ dig k) (hT : (n + m).natAbs * 2 ^ t < 2 ^ top k) :
    ∃ r, ((Datum.number s1 m1 (lp k + e1)).sum (.number s2 m2 (lp k + e2))).map k.format.write = some r ∧ fin k r ((n + m) * 2 ^ t) := by
  simp only [Datum.sum, Option.map_some, signed_eq]
  have hc : ∃ c : Nat, min (lp k + (e1 : Int)) (lp k + e2) = lp k + c ∧ c ≤ e1 ∧ c ≤ e2 := ⟨min e1 e2, by omega, by omega, by omega⟩
  obtain ⟨c, hc, hc1, hc2⟩ := hc
  rw [hc, show (lp k + (e1 : Int) - (lp k + c)).toNat = e1 - c by omega, show (lp k + (e2 : Int) - (lp k + c)).toNat = e2 - c by omega]
  generalize hT' : sg s1 m1 * 2 ^ (e1 - c) + sg s2 m2 * 2 ^ (e2 - c) = total
  have htot : total * 2 ^ c = (n + m) * 2 ^ t := by
    rw [← hT', Int.add_mul, Int.mul_assoc, Int.mul_assoc, ← Int.pow_add, ← Int.pow_add, show e1 - c + c = e1 by omega, show e2 - c + c = e2 by omega, h1, h2, Int.add_mul]
  refine ⟨_, rfl, ?_⟩
  have habs : total.natAbs * 2 ^ c = (n + m).natAbs * 2 ^ t := by rw [← abs_mul_pow, ← abs_mul_pow, htot]
  have := write_exact k (if total = 0 then s1 && s2 else decide (total < 0)) (a := c) (b := t) (t := t) (place := lp k + c) habs (by omega) h hT
  rw [sg_of (n + m)] at this
  · exact this
  · intro h0
    have hp := pow_pos t
    have hp2 := pow_pos c
    have ht0 : total ≠ 0 := by
      intro e
      rw [e, Int.zero_mul] at htot
      rcases Int.mul_eq_zero.1 htot.symm with q | q
      · exact h0 q
      · omega
    rw [if_neg ht0]
    congr 1
    refine propext ⟨fun q => ?_, fun q => ?_⟩
    · have := Int.mul_neg_of_neg_of_pos q hp2
      rw [htot] at this
      rcases Int.lt_or_le (n + m) 0 with w | w
      · exact w
      · have := Int.mul_nonneg w (Int.le_of_lt hp); omega
    · have := Int.mul_neg_of_neg_of_pos q hp
      rw [← htot] at this
      rcases Int.lt_or_le total 0 with w | w
      · exact w
      · have := Int.mul_nonneg w (Int.le_of_lt hp2); omega
theorem fin_arith {k : FloatKind} {op : BinOp} {a b r : Nat} {v : Int} (h : floatBits op k a b = some r) (hr : fin k r v) : fin k (farith op k a b) v := by
  unfold farith
  rw [h, Option.getD_some, hr.cf]
  exact hr
theorem add_fx {k : FloatKind} {a b t : Nat} {n m : Int} (ha : fin k a (n * 2 ^ t)) (hb : fin k b (m * 2 ^ t)) (h : (n + m).natAbs < 2 ^ dig k) (hT : (n + m).natAbs * 2 ^ t < 2 ^ top k) : fin k (farith .add k a b) ((n + m) * 2 ^ t) := by
  obtain ⟨s1, m1, e1, d1, v1⟩ := ha
  obtain ⟨s2, m2, e2, d2, v2⟩ := hb
  obtain ⟨r, hr, hf⟩ := sum_exact (k := k) v1.symm v2.symm h hT
  refine fin_arith (r := r) ?_ hf
  show (((k.decode a).sum (k.decode b)).map k.format.write) = some r
  rw [d1, d2]; exact hr
theorem sub_fx {k : FloatKind} {a b t : Nat} {n m : Int} (ha : fin k a (n * 2 ^ t)) (hb : fin k b (m * 2 ^ t)) (h : (n - m).natAbs < 2 ^ dig k) (hT : (n - m).natAbs * 2 ^ t < 2 ^ top k) : fin k (farith .sub k a b) ((n - m) * 2 ^ t) := by
  obtain ⟨s1, m1, e1, d1, v1⟩ := ha
  obtain ⟨s2, m2, e2, d2, v2⟩ := hb
  have v3 : sg (!s2) m2 * 2 ^ e2 = (-m) * 2 ^ t := by
    have : sg (!s2) m2 = - sg s2 m2 := by cases s2 <;> simp [sg]
    rw [this, Int.neg_mul, Int.neg_mul, v2]
  rw [Int.sub_eq_add_neg] at h hT ⊢
  obtain ⟨r, hr, hf⟩ := sum_exact (k := k) v1.symm v3 h hT
  refine fin_arith (r := r) ?_ hf
  show (((k.decode a).sum (k.decode b).opposite).map k.format.write) = some r
  rw [d1, d2]; exact hr
theorem mul_fx {k : FloatKind} {a b t1 t2 t : Nat} {n m : Int} (ha : fin k a (n * 2 ^ t1)) (hb : fin k b (m * 2 ^ t2)) (ht : (t : Int) = t1 + t2 + lp k) (h : (n * m).natAbs < 2 ^ dig k) (hT : (n * m).natAbs * 2 ^ t < 2 ^ top k) : fin k (farith .mul k a b) (n * m * 2 ^ t) := by
  obtain ⟨s1, m1, e1, d1, v1⟩ := ha
  obtain ⟨s2, m2, e2, d2, v2⟩ := hb
  have hprod : m1 * m2 * 2 ^ (e1 + e2) = (n * m).natAbs * 2 ^ (t1 + t2) := by
    have a1 := congrArg Int.natAbs v1
    have a2 := congrArg Int.natAbs v2
    rw [abs_mul_pow, abs_mul_pow, sg_abs] at a1 a2
    rw [Int.natAbs_mul, Nat.pow_add, Nat.pow_add]
    calc m1 * m2 * (2 ^ e1 * 2 ^ e2) = (m1 * 2 ^ e1) * (m2 * 2 ^ e2) := by simp only [Nat.mul_assoc, Nat.mul_left_comm]
      _ = (n.natAbs * 2 ^ t1) * (m.natAbs * 2 ^ t2) := by rw [a1, a2]
      _ = n.natAbs * m.natAbs * (2 ^ t1 * 2 ^ t2) := by simp only [Nat.mul_assoc, Nat.mul_left_comm]
  have hw := write_exact k (s1 ^^ s2) (a := e1 + e2) (b := t1 + t2) (t := t) (place := lp k + e1 + (lp k + e2)) hprod (by omega) h hT
  have hsg : n * m ≠ 0 → (s1 ^^ s2) = decide (n * m < 0) := by
    intro h0
    have hn : n ≠ 0 := fun e => h0 (by rw [e, Int.zero_mul])
    have hm : m ≠ 0 := fun e => h0 (by rw [e, Int.mul_zero])
    have key : ∀ (s : Bool) (q e t : Nat) (n : Int), n ≠ 0 → n * 2 ^ t = sg s q * 2 ^ e → s = decide (n < 0) := by
      intro s q e t n hn hv
      have hp := pow_pos t
      have hp2 := pow_pos e
      rcases Int.lt_or_le n 0 with w | w
      · have h1 := Int.mul_neg_of_neg_of_pos w hp
        rw [hv] at h1
        cases s
        · exfalso
          have : (0 : Int) ≤ sg false q := by simp [sg]
          have := Int.mul_nonneg this (Int.le_of_lt hp2)
          omega
        · simp [w]
      · have h1 := Int.mul_pos (show 0 < n by omega) hp
        rw [hv] at h1
        cases s
        · simp; omega
        · exfalso
          have : sg true q ≤ 0 := by simp [sg]
          have := Int.mul_nonneg (Int.neg_nonneg_of_nonpos this) (Int.le_of_lt hp2)
          rw [Int.neg_mul] at this
          omega
    rw [key s1 m1 e1 t1 n hn v1, key s2 m2 e2 t2 m hm v2]
    rcases Int.lt_or_le n 0 with w | w <;> rcases Int.lt_or_le m 0 with z | z
    · have := Int.mul_pos_of_neg_of_neg w z
      simp [w, z]; omega
    · have := Int.mul_neg_of_neg_of_pos w (show 0 < m by omega)
      simp [w, show ¬ m < 0 by omega, this]
    · have := Int.mul_neg_of_pos_of_neg (show 0 < n by omega) z
      simp [show ¬ n < 0 by omega, z, this]
    · have := Int.mul_nonneg w z
      simp [show ¬ n < 0 by omega, show ¬ m < 0 by omega, show ¬ n * m < 0 by omega]
  rw [sg_of (n * m) hsg] at hw
  refine fin_arith (r := k.encode (.number (s1 ^^ s2) (m1 * m2) (lp k + e1 + (lp k + e2)))) ?_ hw
  show (((k.decode a).product (k.decode b)).map k.format.write) = _
  rw [d1, d2]; rfl
/-- A whole number as a float. -/
theorem nearest_fx (k : FloatKind) {n : Int} (h : n.natAbs < 2 ^ dig k) : fin k (cf k (k.nearest n)) (n * 2 ^ (-lp k).toNat) := by
  have hlp : lp k ≤ 0 := by cases k <;> decide
  have hw := write_exact k (decide (n < 0)) (mag := n.natAbs) (N := n.natAbs) (a := (-lp k).toNat) (b := (-lp k).toNat) (t := (-lp k).toNat) (place := 0) rfl (by omega) h (by
    refine Nat.lt_of_lt_of_le (Nat.mul_lt_mul_of_pos_right h (Nat.two_pow_pos _)) ?_
    rw [← Nat.pow_add]
    exact Nat.pow_le_pow_right (by decide) (by cases k <;> decide))
  rw [sg_of n (fun _ => rfl)] at hw
  have : cf k (k.nearest n) = k.nearest n := fin.cf hw
  rw [this]
  exact hw
/-! ### Comparisons, signs, conversions -/
theorem order_fin {k : FloatKind} {a b : Nat} {u v : Int} (ha : fin k a u) (hb : fin k b v) : k.format.order a b = some (compare u v) := by
  obtain ⟨s1, m1, e1, d1, v1⟩ := ha
  obtain ⟨s2, m2, e2, d2, v2⟩ := hb
  show (k.decode a).order (k.decode b) = _
  rw [d1, d2]
  simp only [Datum.order, signed_eq, Option.some.injEq]
  obtain ⟨c, hc, hc1, hc2⟩ : ∃ c : Nat, min (lp k + (e1 : Int)) (lp k + e2) = lp k + c ∧ c ≤ e1 ∧ c ≤ e2 := ⟨min e1 e2, by omega, by omega, by omega⟩
  rw [hc, show (lp k + (e1 : Int) - (lp k + c)).toNat = e1 - c by omega, show (lp k + (e2 : Int) - (lp k + c)).toNat = e2 - c by omega]
  have h1 : u = sg s1 m1 * 2 ^ (e1 - c) * 2 ^ c := by rw [v1, Int.mul_assoc, ← Int.pow_add, show e1 - c + c = e1 by omega]
  have h2 : v = sg s2 m2 * 2 ^ (e2 - c) * 2 ^ c := by rw [v2, Int.mul_assoc, ← Int.pow_add, show e2 - c + c = e2 by omega]
  generalize sg s1 m1 * 2 ^ (e1 - c) = x at *
  generalize sg s2 m2 * 2 ^ (e2 - c) = y at *
  have hp := pow_pos c
  rw [h1, h2]
  rcases Int.lt_trichotomy x y with q | q | q
  · rw [Int.compare_eq_lt.2 q, Int.compare_eq_lt.2 (Int.mul_lt_mul_of_pos_right q hp)]
  · subst q; rw [Int.compare_eq_eq.2 rfl, Int.compare_eq_eq.2 rfl]
  · rw [Int.compare_eq_gt.2 q, Int.compare_eq_gt.2 (Int.mul_lt_mul_of_pos_right q hp)]
theorem cmp_eq {k : FloatKind} {a b : Nat} {u v : Int} (ha : fin k a u) (hb : fin k b v) : fcmp .eql k a b = decide (u = v) := by
  simp only [fcmp, order_fin ha hb]
  rcases Int.lt_trichotomy u v with q | q | q
  · rw [Int.compare_eq_lt.2 q, decide_eq_false (by omega)]; rfl
  · rw [Int.compare_eq_eq.2 q, decide_eq_true q]; rfl
  · rw [Int.compare_eq_gt.2 q, decide_eq_false (by omega)]; rfl
theorem cmp_lt {k : FloatKind} {a b : Nat} {u v : Int} (ha : fin k a u) (hb : fin k b v) : fcmp .lss k a b = decide (u < v) := by
  simp only [fcmp, order_fin ha hb]
  rcases Int.lt_trichotomy u v with q | q | q
  · rw [Int.compare_eq_lt.2 q, decide_eq_true q]; rfl
  · rw [Int.compare_eq_eq.2 q, decide_eq_false (by omega)]; rfl
  · rw [Int.compare_eq_gt.2 q, decide_eq_false (by omega)]; rfl
theorem cmp_le {k : FloatKind} {a b : Nat} {u v : Int} (ha : fin k a u) (hb : fin k b v) : fcmp .leq k a b = decide (u ≤ v) := by
  simp only [fcmp, order_fin ha hb]
  rcases Int.lt_trichotomy u v with q | q | q
  · rw [Int.compare_eq_lt.2 q, decide_eq_true (by omega)]; rfl
  · rw [Int.compare_eq_eq.2 q, decide_eq_true (by omega)]; rfl
  · rw [Int.compare_eq_gt.2 q, decide_eq_false (by omega)]; rfl
theorem decode_neg {k : FloatKind} {b : Nat} : k.decode (Op.negFloat k b) = (k.decode b).opposite := by
  have hw : ∀ w : Nat, (b ^^^ 2 ^ w) % 2 ^ w = b % 2 ^ w ∧ ((b ^^^ 2 ^ w) / 2 ^ w % 2 == 1) = !(b / 2 ^ w % 2 == 1) := by
    intro w
    refine ⟨?_, ?_⟩
    · rw [Nat.xor_mod_two_pow]; simp
    · rw [Nat.xor_div_two_pow, Nat.div_self (Nat.two_pow_pos w)]
      have h1 : ((b / 2 ^ w) ^^^ 1) % 2 = (b / 2 ^ w % 2) ^^^ 1 := by
        have := Nat.xor_mod_two_pow (a := b / 2 ^ w) (b := 1) (n := 1)
        simpa using this
      rw [h1]
      rcases Nat.mod_two_eq_zero_or_one (b / 2 ^ w) with q | q <;> rw [q] <;> rfl
  obtain ⟨h1, h2⟩ := hw (k.format.exponentBits + k.format.fractionBits)
  have hs : k.format.signWeight = 2 ^ (k.format.exponentBits + k.format.fractionBits) := rfl
  unfold FloatKind.decode Op.negFloat Format.read
  simp only [hs, h1, h2]
  split
  · rfl
  · split
    · rfl
    · split <;> rfl
theorem neg_fin {k : FloatKind} {b : Nat} {v : Int} (h : fin k b v) : fin k (cf k (Op.negFloat k b)) (-v) := by
  obtain ⟨s, m, e, d, rfl⟩ := h
  have hn : fin k (Op.negFloat k b) (-(sg s m * 2 ^ e)) := by
    refine ⟨!s, m, e, by rw [decode_neg, d]; rfl, ?_⟩
    have : sg (!s) m = - sg s m := by cases s <;> simp [sg]
    rw [this, Int.neg_mul]
  rw [hn.cf]
  exact hn
theorem notInf {k : FloatKind} {b : Nat} {v : Int} (h : fin k b v) : (k.decode b).isInfinity = false := by
  obtain ⟨s, m, e, d, rfl⟩ := h
  rw [d]; rfl
/-- A float of the narrow kind as one of the wide kind. -/
theorem read_mag {k : FloatKind} {b m : Nat} {s : Bool} {p : Int} (h : k.decode b = .number s m p) : m < 2 ^ dig k ∧ ∃ e : Nat, p = lp k + e ∧ e + 3 ≤ 2 ^ k.format.exponentBits := by
  have h0 := binade_pos k.format
  unfold FloatKind.decode Format.read at h
  simp only at h
  rw [dig_bin]
  split at h
  · rename_i hb
    rw [Datum.number.injEq] at h
    obtain ⟨_, rfl, rfl⟩ := h
    exact ⟨by omega, 0, by simp [lp], by cases k <;> decide⟩
  · split at h
    · rename_i hb hi
      rw [Datum.number.injEq] at h
      obtain ⟨_, rfl, rfl⟩ := h
      have := Nat.mod_lt (b % k.format.signWeight) h0
      refine ⟨by omega, _, rfl, ?_⟩
      have : b % k.format.signWeight / k.format.binade < 2 ^ k.format.exponentBits - 1 := by
        rw [Nat.div_lt_iff_lt_mul h0]; exact hi
      have h4 : 2 ^ 2 ≤ 2 ^ k.format.exponentBits := Nat.pow_le_pow_right (by decide) (fine k).eb
      omega
    · split at h <;> cases h
theorem widen_fin {b : Nat} {v : Int} (h : fin .f32 b v) : ∃ r, fconv .f32 b .f64 = some r ∧ fin .f64 r (v * 2 ^ 925) := by
  have hcf := h.notNaN
  obtain ⟨s, m, e, d, rfl⟩ := h
  obtain ⟨hm, e', he, hl⟩ := read_mag d
  have : e' = e := by omega
  subst this
  have hl2 : e' + 3 ≤ 256 := hl
  have hlp : lp .f32 = lp .f64 + 925 := by decide
  have hw := write_exact .f64 s (mag := m) (N := m) (a := e' + 925) (b := e' + 925) (t := e' + 925) (place := lp .f32 + e') rfl (by omega) (Nat.lt_of_lt_of_le hm (by decide)) (by
    refine Nat.lt_of_lt_of_le (Nat.mul_lt_mul_of_pos_right hm (Nat.two_pow_pos _)) ?_
    rw [← Nat.pow_add]
    exact Nat.pow_le_pow_right (by decide) (by show 24 + (e' + 925) ≤ 2098; omega))
  have hni := notInf hw
  refine ⟨FloatKind.f64.encode (.number s m (lp .f32 + e')), ?_, by rw [Int.mul_assoc, ← Int.pow_add]; exact hw⟩
  unfold fconv
  rw [hcf]
  simp only [Bool.false_eq_true, if_false, floatToFloatBits, d, hni, Option.map_some]
  rw [if_neg (by decide)]
  simp only [Option.map_some, hw.cf]
theorem narrow_fin {b t : Nat} {n : Int} (h : fin .f64 b (n * 2 ^ (t + 925))) (hn : n.natAbs < 2 ^ 24) (hT : n.natAbs * 2 ^ t < 2 ^ top .f32) : ∃ r, fconv .f64 b .f32 = some r ∧ fin .f32 r (n * 2 ^ t) := by
  have hcf := h.notNaN
  obtain ⟨s, m, e, d, hv⟩ := h
  have hlp : lp .f32 = lp .f64 + 925 := by decide
  have habs : m * 2 ^ e = n.natAbs * 2 ^ (t + 925) := by
    have := congrArg Int.natAbs hv
    rw [abs_mul_pow, abs_mul_pow, sg_abs] at this
    exact this.symm
  have hw := write_exact .f32 s (mag := m) (N := n.natAbs) (a := e) (b := t + 925) (t := t) (place := lp .f64 + e) habs (by omega) hn hT
  have hni := notInf hw
  have hs : n ≠ 0 → s = decide (n < 0) := by
    intro h0
    have hp := pow_pos (t + 925)
    have hp2 := pow_pos e
    rcases Int.lt_or_le n 0 with w | w
    · have h1 := Int.mul_neg_of_neg_of_pos w hp
      rw [hv] at h1
      cases s
      · exfalso
        have : (0 : Int) ≤ sg false m := by simp [sg]
        have := Int.mul_nonneg this (Int.le_of_lt hp2)
        omega
      · simp [w]
    · have h1 := Int.mul_pos (show 0 < n by omega) hp
      rw [hv] at h1
      cases s
      · simp; omega
      · exfalso
        have : sg true m ≤ 0 := by simp [sg]
        have := Int.mul_nonneg (Int.neg_nonneg_of_nonpos this) (Int.le_of_lt hp2)
        rw [Int.neg_mul] at this
        omega
  rw [sg_of n hs] at hw
  refine ⟨FloatKind.f32.encode (.number s m (lp .f64 + e)), ?_, hw⟩
  unfold fconv
  rw [hcf]
  simp only [Bool.false_eq_true, if_false, floatToFloatBits, d, hni, Option.map_some]
  rw [if_neg (by decide)]
  simp only [Option.map_some, hw.cf]
end Go.Proofs.Yteignhphimfmkaa.Sim.Fl
