/- Words of floats that stand for given numbers: what is written, and how great it is. Plain Lean over the exact words; lemmas only; no condition. -/
import Ieee.Arith
set_option linter.unusedSimpArgs false
set_option linter.unusedVariables false
namespace Go.Proofs.Yteignhphimfmkaa.Sim.Fl
open Ieee
/-- A format as it is meant. -/
structure Fine (f : Format) : Prop where
  eb : 2 ≤ f.exponentBits
  fb : 2 ≤ f.fractionBits
theorem fine_single : Fine single := ⟨by decide, by decide⟩
theorem fine_double : Fine double := ⟨by decide, by decide⟩
theorem binade_pos (f : Format) : 0 < f.binade := Nat.two_pow_pos _
theorem inf_lt (f : Format) : f.infRung < f.signWeight := by
  unfold Format.infRung Format.signWeight Format.binade
  rw [Nat.pow_add]
  exact Nat.mul_lt_mul_of_pos_right (Nat.sub_lt (Nat.two_pow_pos _) (by decide)) (Nat.two_pow_pos _)
theorem word_parts (f : Format) (neg : Bool) {r : Nat} (h : r < f.signWeight) : (f.word neg r / f.signWeight % 2 == 1) = neg ∧ f.word neg r % f.signWeight = r := by
  have h0 : 0 < f.signWeight := Nat.two_pow_pos _
  unfold Format.word
  cases neg
  · simp only [Bool.false_eq_true, if_false]
    rw [Nat.div_eq_of_lt h, Nat.mod_eq_of_lt h]
    exact ⟨rfl, rfl⟩
  · simp only [if_true]
    rw [Nat.add_div_left _ h0, Nat.div_eq_of_lt h, Nat.add_mod_left, Nat.mod_eq_of_lt h]
    exact ⟨rfl, rfl⟩
/-- What the rung of a significand in a binade stands for. -/
theorem read_word (f : Format) (neg : Bool) {e kept : Nat} (hk : kept < 2 * f.binade) (he : e = 0 ∨ f.binade ≤ kept) (hr : e * f.binade + kept < f.infRung) : f.read (f.word neg (e * f.binade + kept)) = .number neg kept (f.leastPlace + e) := by
  have h0 := binade_pos f
  obtain ⟨h1, h2⟩ := word_parts f neg (r := e * f.binade + kept) (Nat.lt_trans hr (inf_lt f))
  unfold Format.read
  simp only [h1, h2]
  by_cases hb : e * f.binade + kept < f.binade
  · rw [if_pos hb]
    have : e = 0 := by
      rcases he with he | he
      · exact he
      · exact absurd hb (by omega)
    subst this
    simp
  · rw [if_neg hb, if_pos hr]
    have hkb : f.binade ≤ kept := by
      rcases he with he | he
      · subst he; simpa using hb
      · exact he
    obtain ⟨k, rfl⟩ : ∃ k, kept = f.binade + k := ⟨kept - f.binade, by omega⟩
    have hk2 : k < f.binade := by omega
    have e1 : e * f.binade + (f.binade + k) = k + (e + 1) * f.binade := by rw [Nat.succ_mul]; omega
    rw [e1, Nat.add_mul_mod_self_right, Nat.mod_eq_of_lt hk2, Nat.add_mul_div_right _ _ h0, Nat.div_eq_of_lt hk2]
    simp
theorem cut_exact (neg : Bool) {n N d : Nat} (h : n = N * 2 ^ d) (hN : 0 < N) : Toward.even.cut neg n d = N := by
  have hd : d ≤ n.log2 := by
    have h1 : 2 ^ d ≤ n := by rw [h]; exact Nat.le_mul_of_pos_left _ hN
    exact (Nat.le_log2 (by rw [h]; exact Nat.mul_ne_zero (by omega) (Nat.ne_of_gt (Nat.two_pow_pos d)))).2 h1
  unfold Toward.cut
  rw [Nat.min_eq_left (by omega), Nat.one_shiftLeft]
  have h2 : 0 < 2 ^ d := Nat.two_pow_pos d
  have e1 : n / 2 ^ d = N := by rw [h]; exact Nat.mul_div_cancel _ h2
  have e2 : n % 2 ^ d = 0 := by rw [h]; exact Nat.mul_mod_left _ _
  simp only [e1, e2]
  have e3 : (2 ^ d == 2 * 0) = false := by simp
  simp [e3]
theorem log2_mul_pow {n : Nat} (a : Nat) (h : n ≠ 0) : (n * 2 ^ a).log2 = n.log2 + a := by
  induction a with
  | zero => simp
  | succ a ih =>
    rw [Nat.pow_succ, ← Nat.mul_assoc, Nat.mul_comm _ 2, Nat.log2_two_mul (Nat.mul_ne_zero h (Nat.ne_of_gt (Nat.two_pow_pos a))), ih]
    omega
theorem pow_split {m n : Nat} (h : m ≤ n) : 2 ^ n = 2 ^ m * 2 ^ (n - m) := by rw [← Nat.pow_add]; congr 1; omega
/-- A number that the format has is written as it is. -/
theorem nearest_exact {f : Format} (hf : Fine f) (neg : Bool) {mag N a b : Nat} {place p : Int} (h : mag * 2 ^ a = N * 2 ^ b) (hq : place - a = p - b) (hN0 : 0 < N) (hN : N < 2 * f.binade) (hp : f.leastPlace ≤ p) (hmax : p + N.log2 - f.fractionBits - f.leastPlace + 3 ≤ (2 : Int) ^ f.exponentBits) :
    ∃ kept e : Nat, f.read (f.nearest neg mag place) = .number neg kept (f.leastPlace + e) ∧ f.leastPlace + e ≤ p ∧ kept = N * 2 ^ (p - (f.leastPlace + e)).toNat := by
  have hm0 : mag ≠ 0 := by
    intro e
    subst e
    rw [Nat.zero_mul] at h
    have := Nat.mul_pos hN0 (Nat.two_pow_pos b)
    omega
  have hlog : mag.log2 + a = N.log2 + b := by
    rw [← log2_mul_pow a hm0, ← log2_mul_pow b (by omega), h]
  have hNl : N.log2 ≤ f.fractionBits := by
    have h1 : N.log2 < f.fractionBits + 1 := (Nat.log2_lt (by omega)).2 (by rw [Nat.pow_succ]; unfold Format.binade at hN; omega)
    omega
  unfold Format.nearest
  rw [if_neg hm0]
  have hl : place + mag.log2 - f.fractionBits = p + N.log2 - f.fractionBits := by omega
  simp only [hl]
  generalize hlast : max (p + N.log2 - (f.fractionBits : Int)) f.leastPlace = last
  have hlp : last ≤ p := by omega
  have hkept : Toward.even.cut neg (mag <<< (place - last).toNat) (last - place).toNat = N * 2 ^ (p - last).toNat := by
    rw [Nat.shiftLeft_eq]
    rcases Int.le_total place last with q | q
    · have e1 : (place - last).toNat = 0 := by omega
      rw [e1, Nat.pow_zero, Nat.mul_one]
      refine cut_exact neg ?_ (Nat.mul_pos hN0 (Nat.two_pow_pos _))
      have e2 : b = a + ((p - last).toNat + (last - place).toNat) := by omega
      rw [e2, Nat.pow_add, Nat.mul_comm (2 ^ a), ← Nat.mul_assoc] at h
      rw [Nat.mul_assoc, ← Nat.pow_add]
      exact Nat.eq_of_mul_eq_mul_right (Nat.two_pow_pos a) h
    · have e1 : (last - place).toNat = 0 := by omega
      rw [e1]
      refine cut_exact neg ?_ (Nat.mul_pos hN0 (Nat.two_pow_pos _))
      rw [Nat.pow_zero, Nat.mul_one]
      rcases Int.le_total place p with w | w
      · have e2 : b = a + (p - place).toNat := by omega
        rw [e2, Nat.pow_add, Nat.mul_comm (2 ^ a), ← Nat.mul_assoc] at h
        have e3 := Nat.eq_of_mul_eq_mul_right (Nat.two_pow_pos a) h
        rw [e3, Nat.mul_assoc, ← Nat.pow_add]
        congr 2; omega
      · have e2 : a = b + (place - p).toNat := by omega
        rw [e2, Nat.pow_add, Nat.mul_comm (2 ^ b), ← Nat.mul_assoc] at h
        have e3 := Nat.eq_of_mul_eq_mul_right (Nat.two_pow_pos b) h
        rw [← e3, Nat.mul_assoc, ← Nat.pow_add]
        congr 2; omega
  rw [hkept]
  have hL : f.leastPlace ≤ last := by omega
  have hle : (f.leastPlace + ((last - f.leastPlace).toNat : Int)) = last := by omega
  have hNlt := @Nat.lt_log2_self N
  have hNge := Nat.log2_self_le (n := N) (by omega)
  have hk2 : N * 2 ^ (p - last).toNat < 2 * f.binade := by
    have h1 : N * 2 ^ (p - last).toNat < 2 ^ (N.log2 + 1) * 2 ^ (p - last).toNat := Nat.mul_lt_mul_of_pos_right hNlt (Nat.two_pow_pos _)
    have h2 : 2 ^ (N.log2 + 1) * 2 ^ (p - last).toNat ≤ 2 * f.binade := by
      unfold Format.binade
      rw [← Nat.pow_add, Nat.mul_comm 2, ← Nat.pow_succ]
      exact Nat.pow_le_pow_right (by decide) (by omega)
    omega
  have he2 : (last - f.leastPlace).toNat = 0 ∨ f.binade ≤ N * 2 ^ (p - last).toNat := by
    rcases Int.le_total (p + N.log2 - (f.fractionBits : Int)) f.leastPlace with q | q
    · left; omega
    · right
      have h1 : 2 ^ N.log2 * 2 ^ (p - last).toNat ≤ N * 2 ^ (p - last).toNat := Nat.mul_le_mul_right _ hNge
      refine Nat.le_trans ?_ h1
      unfold Format.binade
      rw [← Nat.pow_add]
      exact Nat.pow_le_pow_right (by decide) (by omega)
  have hr : (last - f.leastPlace).toNat * f.binade + N * 2 ^ (p - last).toNat < f.infRung := by
    have h1 : ((last - f.leastPlace).toNat + 2) * f.binade ≤ f.infRung := by
      unfold Format.infRung
      refine Nat.mul_le_mul_right _ ?_
      have h3 := hf.eb
      have h4 : 2 ^ 2 ≤ 2 ^ f.exponentBits := Nat.pow_le_pow_right (by decide) h3
      have h2 : (((last - f.leastPlace).toNat + 3 : Nat) : Int) ≤ ((2 ^ f.exponentBits : Nat) : Int) := by
        rw [Int.natCast_pow]
        rcases Int.le_total (p + N.log2 - (f.fractionBits : Int)) f.leastPlace with q | q
        · have e0 : (last - f.leastPlace).toNat = 0 := by omega
          rw [e0]
          have h5 : (4 : Int) ≤ (2 : Int) ^ f.exponentBits := by exact_mod_cast h4
          have h6 : ((2 : Nat) : Int) ^ f.exponentBits = (2 : Int) ^ f.exponentBits := rfl
          omega
        · have : ((last - f.leastPlace).toNat + 3 : Int) = p + N.log2 - f.fractionBits - f.leastPlace + 3 := by omega
          have h6 : ((2 : Nat) : Int) ^ f.exponentBits = (2 : Int) ^ f.exponentBits := rfl
          omega
      have := Int.ofNat_le.1 h2
      omega
    rw [Nat.add_mul] at h1
    omega
  rw [Nat.min_eq_left (Nat.le_of_lt hr)]
  exact ⟨_, _, read_word f neg hk2 he2 hr, by omega, by rw [hle]⟩
/-! ### Rounding -/
/-- A cut is near, and keeps to whole bounds. -/
theorem cut_near (neg : Bool) (n d : Nat) : 2 * (Toward.even.cut neg n d * 2 ^ d) ≤ 2 * n + 2 ^ d ∧ 2 * n ≤ 2 * (Toward.even.cut neg n d * 2 ^ d) + 2 ^ d := by
  unfold Toward.cut
  rw [Nat.one_shiftLeft]
  rcases Nat.le_total d (n.log2 + 2) with q | q
  · rw [Nat.min_eq_left q]
    simp only
    have h0 := Nat.two_pow_pos d
    have h1 := Nat.div_add_mod n (2 ^ d)
    have h2 := Nat.mod_lt n h0
    generalize n / 2 ^ d = a at *
    generalize n % 2 ^ d = r at *
    generalize 2 ^ d = g at *
    rw [Nat.add_mul, Nat.mul_comm a g]
    rcases Nat.lt_trichotomy g (2 * r) with w | w | w
    · have e1 : (decide (g < 2 * r) || (g == 2 * r && a % 2 == 1)) = true := by simp [w]
      rw [e1]; simp; omega
    · have e1 : (decide (g < 2 * r) || (g == 2 * r && a % 2 == 1)) = (a % 2 == 1) := by simp [w]
      rw [e1]
      cases (a % 2 == 1) <;> simp <;> omega
    · have e1 : (decide (g < 2 * r) || (g == 2 * r && a % 2 == 1)) = false := by
        have : ¬ g < 2 * r := by omega
        have : (g == 2 * r) = false := by simp; omega
        simp [*]
      rw [e1]; simp; omega
  · rw [Nat.min_eq_right q]
    have h3 : n < 2 ^ (n.log2 + 1) := Nat.lt_log2_self
    have h4 : 2 ^ (n.log2 + 2) = 2 * 2 ^ (n.log2 + 1) := by rw [Nat.pow_succ, Nat.mul_comm]
    have h5 : 2 ^ (n.log2 + 2) ≤ 2 ^ d := Nat.pow_le_pow_right (by decide) q
    have e2 : n / 2 ^ (n.log2 + 2) = 0 := Nat.div_eq_of_lt (by omega)
    have e3 : n % 2 ^ (n.log2 + 2) = n := Nat.mod_eq_of_lt (by omega)
    simp only [e2, e3]
    have e1 : (decide (2 ^ (n.log2 + 2) < 2 * n) || (2 ^ (n.log2 + 2) == 2 * n && 0 % 2 == 1)) = false := by
      have : ¬ 2 ^ (n.log2 + 2) < 2 * n := by omega
      simp [this]
    rw [e1]; simp; omega
theorem cut_le (neg : Bool) {n d N : Nat} (h : n ≤ N * 2 ^ d) : Toward.even.cut neg n d ≤ N := by
  have h1 := (cut_near neg n d).1
  have h0 := Nat.two_pow_pos d
  rcases Nat.lt_or_ge N (Toward.even.cut neg n d) with q | q
  · exfalso
    have h2 : (N + 1) * 2 ^ d ≤ Toward.even.cut neg n d * 2 ^ d := Nat.mul_le_mul_right _ q
    rw [Nat.add_mul] at h2
    omega
  · exact q
theorem le_cut (neg : Bool) {n d N : Nat} (h : N * 2 ^ d ≤ n) : N ≤ Toward.even.cut neg n d := by
  have h1 := (cut_near neg n d).2
  have h0 := Nat.two_pow_pos d
  rcases Nat.lt_or_ge (Toward.even.cut neg n d) N with q | q
  · exfalso
    have h2 : (Toward.even.cut neg n d + 1) * 2 ^ d ≤ N * 2 ^ d := Nat.mul_le_mul_right _ q
    rw [Nat.add_mul] at h2
    omega
  · exact q
/-- What is written of any number: a number nearby, unless it is too great. -/
theorem nearest_round {f : Format} (hf : Fine f) (neg : Bool) {mag : Nat} {place : Int} (hm : mag ≠ 0) (hmax : max (place + mag.log2 - f.fractionBits) f.leastPlace - f.leastPlace + 4 ≤ (2 : Int) ^ f.exponentBits) :
    ∃ kept e c : Nat, (f.leastPlace + c : Int) = max (place + mag.log2 - f.fractionBits) f.leastPlace ∧ f.read (f.nearest neg mag place) = .number neg kept (f.leastPlace + e) ∧ c ≤ e ∧ kept * 2 ^ (e - c) = Toward.even.cut neg (mag <<< (place - (f.leastPlace + c)).toNat) (f.leastPlace + c - place).toNat := by
  have h0 := binade_pos f
  unfold Format.nearest
  rw [if_neg hm]
  simp only
  generalize hlast : max (place + mag.log2 - (f.fractionBits : Int)) f.leastPlace = last at *
  have hL : f.leastPlace ≤ last := by omega
  have hc : (f.leastPlace + ((last - f.leastPlace).toNat : Int)) = last := by omega
  refine Exists.imp (fun _ => Exists.imp fun _ h => ⟨(last - f.leastPlace).toNat, h⟩) ?_
  rw [hc]
  generalize hkept : Toward.even.cut neg (mag <<< (place - last).toNat) (last - place).toNat = kept
  have hmlt := @Nat.lt_log2_self mag
  have hmge := Nat.log2_self_le hm
  have hk2 : kept ≤ 2 * f.binade := by
    rw [← hkept]
    refine cut_le neg ?_
    rw [Nat.shiftLeft_eq]
    refine Nat.le_trans (Nat.mul_le_mul_right _ (Nat.le_of_lt hmlt)) ?_
    unfold Format.binade
    rw [← Nat.pow_add, Nat.mul_comm 2, ← Nat.pow_succ, ← Nat.pow_add]
    exact Nat.pow_le_pow_right (by decide) (by omega)
  have he2 : (last - f.leastPlace).toNat = 0 ∨ f.binade ≤ kept := by
    rcases Int.le_total (place + mag.log2 - (f.fractionBits : Int)) f.leastPlace with q | q
    · left; omega
    · right
      rw [← hkept]
      refine le_cut neg ?_
      rw [Nat.shiftLeft_eq]
      refine Nat.le_trans ?_ (Nat.mul_le_mul_right _ hmge)
      unfold Format.binade
      rw [← Nat.pow_add, ← Nat.pow_add]
      exact Nat.pow_le_pow_right (by decide) (by omega)
  have hr : ((last - f.leastPlace).toNat + 2) * f.binade < f.infRung := by
    unfold Format.infRung
    refine Nat.mul_lt_mul_of_pos_right ?_ h0
    have h2 : (((last - f.leastPlace).toNat + 4 : Nat) : Int) ≤ ((2 ^ f.exponentBits : Nat) : Int) := by
      rw [Int.natCast_pow]
      have h6 : ((2 : Nat) : Int) ^ f.exponentBits = (2 : Int) ^ f.exponentBits := rfl
      omega
    have := Int.ofNat_le.1 h2
    omega
  rw [Nat.add_mul] at hr
  rcases Nat.lt_or_eq_of_le hk2 with q | q
  · rw [Nat.min_eq_left (by omega)]
    exact ⟨kept, (last - f.leastPlace).toNat, by omega, read_word f neg q he2 (by omega), Nat.le_refl _, by rw [Nat.sub_self, Nat.pow_zero, Nat.mul_one]⟩
  · rw [Nat.min_eq_left (by omega)]
    refine ⟨f.binade, (last - f.leastPlace).toNat + 1, by omega, ?_, by omega, ?_⟩
    · have := read_word f neg (e := (last - f.leastPlace).toNat + 1) (kept := f.binade) (by omega) (.inr (Nat.le_refl _)) (by rw [Nat.add_mul]; omega)
      rw [← this]
      congr 2
      rw [Nat.add_mul]; omega
    · rw [show (last - f.leastPlace).toNat + 1 - (last - f.leastPlace).toNat = 1 by omega, q]; omega
end Go.Proofs.Yteignhphimfmkaa.Sim.Fl
