/- How great floats are: bounds by powers of two, through sums, products and conversions. Lemmas only; no condition. -/
import Derived.Test.YtkhipobafchilaaFle
set_option linter.unusedSimpArgs false
set_option linter.unusedVariables false
namespace Go.Proofs.Ytkhipobafchilaa.Sim.Fl
open Ieee Go
/-- The greatest bound, in units of the least number. -/
def mx (k : FloatKind) : Nat := match k with | .f32 => 275 | .f64 => 2096
/-- A finite float that is at most a power of two. -/
def bd (k : FloatKind) (u : Nat) (b : Nat) : Prop := ∃ v, fin k b v ∧ v.natAbs ≤ 2 ^ u
theorem fin.bd {k : FloatKind} {b u : Nat} {v : Int} (h : fin k b v) (hv : v.natAbs ≤ 2 ^ u) : bd k u b := ⟨v, h, hv⟩
theorem bd.mono {k : FloatKind} {b u w : Nat} (h : bd k u b) (hw : u ≤ w) : bd k w b := by
  obtain ⟨v, h1, h2⟩ := h
  exact ⟨v, h1, Nat.le_trans h2 (Nat.pow_le_pow_right (by decide) hw)⟩
theorem bd.cf {k : FloatKind} {b u : Nat} (h : bd k u b) : cf k b = b := by obtain ⟨v, h1, _⟩ := h; exact h1.cf
theorem bd.notNaN {k : FloatKind} {b u : Nat} (h : bd k u b) : (k.decode b).isNaN = false := by obtain ⟨v, h1, _⟩ := h; exact h1.notNaN
/-- What is written of any number that is not too great, and how near it is: the error is at most half a unit of the last digit. -/
theorem write_round (k : FloatKind) (neg : Bool) {mag a s u : Nat} {place : Int} (h : mag * 2 ^ a ≤ 2 ^ s) (hp : place - a = lp k + u - s) (hu : u ≤ mx k) : ∃ (kept c : Nat), fin k (k.encode (.number neg mag place)) (sg neg kept * 2 ^ c) ∧ kept * 2 ^ c ≤ 2 ^ u ∧ (c = 0 ∨ (mag ≠ 0 ∧ (c : Int) = place + mag.log2 - k.format.fractionBits - lp k)) ∧
    (mag = 0 → kept = 0) ∧ (mag ≠ 0 → kept = Toward.even.cut neg (mag <<< (place - (lp k + c)).toNat) (lp k + c - place).toNat) := by
  by_cases hm : mag = 0
  · subst hm
    have hw := write_exact k neg (mag := 0) (N := 0) (a := 0) (b := 0) (t := 0) (place := lp k) (by simp) (by omega) (Nat.two_pow_pos _) (by simp; exact Nat.two_pow_pos _)
    have e1 : k.encode (.number neg 0 place) = k.encode (.number neg 0 (lp k)) := by
      show k.format.nearest neg 0 place = k.format.nearest neg 0 (lp k)
      unfold Format.nearest; rfl
    exact ⟨0, 0, by rw [e1]; exact hw, by rw [Nat.zero_mul]; exact Nat.zero_le _, .inl rfl, fun _ => rfl, fun q => absurd rfl q⟩
  · have hlog : mag.log2 + a ≤ s := by
      rw [← log2_mul_pow a hm]
      have h1 : mag * 2 ^ a ≠ 0 := Nat.mul_ne_zero hm (Nat.ne_of_gt (Nat.two_pow_pos a))
      have h2 := Nat.log2_self_le h1
      rcases Nat.lt_or_ge s (mag * 2 ^ a).log2 with q | q
      · have := Nat.pow_lt_pow_right (a := 2) (by decide) q
        omega
      · exact q
    have hf : (k.format.fractionBits : Int) = if k = .f32 then 23 else 52 := by cases k <;> rfl
    obtain ⟨kept, e, c, h1, h2, h3, h4⟩ := nearest_round (fine k) neg (mag := mag) (place := place) hm (by
      show max (place + mag.log2 - _) (lp k) - lp k + 4 ≤ _
      cases k
      · have e1 : (FloatKind.f32.format.fractionBits : Int) = 23 := rfl
        have e2 : (2 : Int) ^ FloatKind.f32.format.exponentBits = 256 := rfl
        have : (mx .f32) = 275 := rfl
        rw [e1, e2]
        omega
      · have e1 : (FloatKind.f64.format.fractionBits : Int) = 52 := rfl
        have e2 : (2 : Int) ^ FloatKind.f64.format.exponentBits = 2048 := rfl
        have : (mx .f64) = 2096 := rfl
        rw [e1, e2]
        omega)
    have h1' : (lp k + c : Int) = max (place + mag.log2 - k.format.fractionBits) (lp k) := h1
    have hval : sg neg kept * 2 ^ e = sg neg (kept * 2 ^ (e - c)) * 2 ^ c := by
      have : (2 : Int) ^ e = 2 ^ (e - c) * 2 ^ c := by rw [← Int.pow_add]; congr 1; omega
      rw [this, ← Int.mul_assoc]
      congr 1
      unfold sg
      split <;> simp [Int.neg_mul]
    have hcu : c ≤ u := by
      have := Int.natCast_nonneg k.format.fractionBits
      omega
    refine ⟨kept * 2 ^ (e - c), c, ⟨neg, kept, e, h2, hval.symm⟩, ?_, ?_, fun q => absurd q hm, fun _ => h4⟩
    · rw [h4]
      have hb : Toward.even.cut neg (mag <<< (place - (k.format.leastPlace + c)).toNat) (k.format.leastPlace + c - place).toNat ≤ 2 ^ (u - c) := by
        refine cut_le neg ?_
        rw [Nat.shiftLeft_eq, ← Nat.pow_add]
        have hle : mag * 2 ^ a * 2 ^ (place - (lp k + c)).toNat ≤ 2 ^ s * 2 ^ (place - (lp k + c)).toNat := Nat.mul_le_mul_right _ h
        have e5 : s + (place - (lp k + c)).toNat = a + ((u - c) + (lp k + c - place).toNat) := by omega
        rw [← Nat.pow_add, e5, Nat.pow_add, Nat.mul_right_comm, Nat.mul_comm (2 ^ a)] at hle
        exact Nat.le_of_mul_le_mul_right hle (Nat.two_pow_pos a)
      refine Nat.le_trans (Nat.mul_le_mul_right _ hb) ?_
      rw [← Nat.pow_add, show u - c + c = u by omega]
      exact Nat.le_refl _
    · rcases Nat.eq_zero_or_pos c with q | q
      · exact .inl q
      · refine .inr ⟨hm, by omega⟩
theorem write_bd (k : FloatKind) (neg : Bool) {mag a s u : Nat} {place : Int} (h : mag * 2 ^ a ≤ 2 ^ s) (hp : place - a = lp k + u - s) (hu : u ≤ mx k) : bd k u (k.encode (.number neg mag place)) := by
  obtain ⟨kept, c, h1, h2, _⟩ := write_round k neg h hp hu
  exact h1.bd (by rw [abs_mul_pow, sg_abs]; exact h2)
theorem bd_arith {k : FloatKind} {op : BinOp} {a b r u : Nat} (h : floatBits op k a b = some r) (hr : bd k u r) : bd k u (farith op k a b) := by
  obtain ⟨v, h1, h2⟩ := hr
  exact ⟨v, fin_arith h h1, h2⟩
theorem sum_bd {k : FloatKind} {s1 s2 : Bool} {m1 m2 e1 e2 u : Nat} (h1 : m1 * 2 ^ e1 ≤ 2 ^ u) (h2 : m2 * 2 ^ e2 ≤ 2 ^ u) (hu : u + 1 ≤ mx k) :
    ∃ r, ((Datum.number s1 m1 (lp k + e1)).sum (.number s2 m2 (lp k + e2))).map k.format.write = some r ∧ bd k (u + 1) r := by
  simp only [Datum.sum, Option.map_some, signed_eq]
  obtain ⟨c, hc, hc1, hc2⟩ : ∃ c : Nat, min (lp k + (e1 : Int)) (lp k + e2) = lp k + c ∧ c ≤ e1 ∧ c ≤ e2 := ⟨min e1 e2, by omega, by omega, by omega⟩
  rw [hc, show (lp k + (e1 : Int) - (lp k + c)).toNat = e1 - c by omega, show (lp k + (e2 : Int) - (lp k + c)).toNat = e2 - c by omega]
  refine ⟨_, rfl, ?_⟩
  refine write_bd k _ (a := c) (s := u + 1) (u := u + 1) ?_ (by omega) hu
  have key : ∀ (s : Bool) (m e : Nat), c ≤ e → m * 2 ^ e ≤ 2 ^ u → (sg s m * 2 ^ (e - c)).natAbs * 2 ^ c ≤ 2 ^ u := by
    intro s m e hce hm
    rw [abs_mul_pow, sg_abs, Nat.mul_assoc, ← Nat.pow_add, show e - c + c = e by omega]
    exact hm
  have k1 := key s1 m1 e1 hc1 h1
  have k2 := key s2 m2 e2 hc2 h2
  have h3 := Int.natAbs_add_le (sg s1 m1 * 2 ^ (e1 - c)) (sg s2 m2 * 2 ^ (e2 - c))
  have h4 := Nat.mul_le_mul_right (2 ^ c) h3
  rw [Nat.add_mul] at h4
  rw [Nat.pow_succ]
  omega
theorem bd.parts {k : FloatKind} {b u : Nat} (h : bd k u b) : ∃ (s : Bool) (m e : Nat), k.decode b = .number s m (lp k + e) ∧ m * 2 ^ e ≤ 2 ^ u := by
  obtain ⟨v, ⟨s, m, e, h1, rfl⟩, h2⟩ := h
  rw [abs_mul_pow, sg_abs] at h2
  exact ⟨s, m, e, h1, h2⟩
theorem add_bd {k : FloatKind} {a b u : Nat} (ha : bd k u a) (hb : bd k u b) (hu : u + 1 ≤ mx k) : bd k (u + 1) (farith .add k a b) := by
  obtain ⟨s1, m1, e1, d1, v1⟩ := ha.parts
  obtain ⟨s2, m2, e2, d2, v2⟩ := hb.parts
  obtain ⟨r, hr, hf⟩ := sum_bd (k := k) (s1 := s1) (s2 := s2) v1 v2 hu
  refine bd_arith (r := r) ?_ hf
  show (((k.decode a).sum (k.decode b)).map k.format.write) = some r
  rw [d1, d2]; exact hr
theorem sub_bd {k : FloatKind} {a b u : Nat} (ha : bd k u a) (hb : bd k u b) (hu : u + 1 ≤ mx k) : bd k (u + 1) (farith .sub k a b) := by
  obtain ⟨s1, m1, e1, d1, v1⟩ := ha.parts
  obtain ⟨s2, m2, e2, d2, v2⟩ := hb.parts
  obtain ⟨r, hr, hf⟩ := sum_bd (k := k) (s1 := s1) (s2 := !s2) v1 v2 hu
  refine bd_arith (r := r) ?_ hf
  show (((k.decode a).sum (k.decode b).opposite).map k.format.write) = some r
  rw [d1, d2]; exact hr
theorem mul_bd {k : FloatKind} {a b u w t : Nat} (ha : bd k u a) (hb : bd k w b) (ht : (t : Int) = u + w + lp k) (hu : t ≤ mx k) : bd k t (farith .mul k a b) := by
  obtain ⟨s1, m1, e1, d1, v1⟩ := ha.parts
  obtain ⟨s2, m2, e2, d2, v2⟩ := hb.parts
  have hprod : m1 * m2 * 2 ^ (e1 + e2) ≤ 2 ^ (u + w) := by
    rw [Nat.pow_add, Nat.pow_add]
    calc m1 * m2 * (2 ^ e1 * 2 ^ e2) = (m1 * 2 ^ e1) * (m2 * 2 ^ e2) := by simp only [Nat.mul_assoc, Nat.mul_left_comm]
      _ ≤ 2 ^ u * 2 ^ w := Nat.mul_le_mul v1 v2
  refine bd_arith (r := k.encode (.number (s1 ^^ s2) (m1 * m2) (lp k + e1 + (lp k + e2)))) ?_ (write_bd k _ (a := e1 + e2) (s := u + w) (u := t) hprod (by omega) hu)
  show (((k.decode a).product (k.decode b)).map k.format.write) = _
  rw [d1, d2]; rfl
theorem neg_bd {k : FloatKind} {b u : Nat} (h : bd k u b) : bd k u (Sim.cf k (Op.negFloat k b)) := by
  obtain ⟨v, h1, h2⟩ := h
  exact ⟨-v, neg_fin h1, by rw [Int.natAbs_neg]; exact h2⟩
theorem widen_bd {b u : Nat} (h : bd .f32 u b) : ∃ r, fconv .f32 b .f64 = some r ∧ bd .f64 (u + 925) r := by
  obtain ⟨v, h1, h2⟩ := h
  obtain ⟨r, h3, h4⟩ := widen_fin h1
  exact ⟨r, h3, _, h4, by rw [abs_mul_pow, Nat.pow_add]; exact Nat.mul_le_mul_right _ h2⟩
theorem narrow_bd {b u : Nat} (h : bd .f64 (u + 925) b) (hu : u ≤ 275) : ∃ r, fconv .f64 b .f32 = some r ∧ bd .f32 u r := by
  have hcf := h.notNaN
  obtain ⟨s, m, e, d, hv⟩ := h.parts
  have hlp : lp .f32 = lp .f64 + 925 := by decide
  have hw := write_bd .f32 s (mag := m) (a := e) (s := u + 925) (u := u) (place := lp .f64 + e) hv (by omega) hu
  obtain ⟨v, hw1, hw2⟩ := hw
  have hni := notInf hw1
  refine ⟨FloatKind.f32.encode (.number s m (lp .f64 + e)), ?_, v, hw1, hw2⟩
  unfold fconv
  rw [hcf]
  simp only [Bool.false_eq_true, if_false, floatToFloatBits, d, hni, Option.map_some]
  rw [if_neg (by decide)]
  simp only [Option.map_some, hw1.cf]
end Go.Proofs.Ytkhipobafchilaa.Sim.Fl
