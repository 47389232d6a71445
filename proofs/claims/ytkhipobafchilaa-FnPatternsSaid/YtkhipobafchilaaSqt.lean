/- How near rounded numbers are to what they round. Lemmas only; no condition. -/
import Derived.Test.YtkhipobafchilaaFlq
set_option linter.unusedSimpArgs false
set_option linter.unusedVariables false
namespace Go.Proofs.Ytkhipobafchilaa.Sim.Fl
open Ieee Go
theorem fb_dig (k : FloatKind) : dig k = k.format.fractionBits + 1 := by cases k <;> rfl
/-- What is written of a number, and that it is within half a unit of its last digit: all in units of 2 ^ -D of the least number. -/
theorem write_err (k : FloatKind) (neg : Bool) {mag a s u D : Nat} {place : Int} (h : mag * 2 ^ a ≤ 2 ^ s) (hp : place - a = lp k + u - s) (hu : u ≤ mx k) (hD : lp k ≤ place + D) :
    ∃ v : Int, fin k (k.encode (.number neg mag place)) v ∧ v.natAbs ≤ 2 ^ u ∧ (2 * (v * 2 ^ D - sg neg (mag * 2 ^ (place + D - lp k).toNat))).natAbs ≤ 2 ^ (D + (u - k.format.fractionBits)) := by
  obtain ⟨kept, c, h1, h2, h3, h4, h5⟩ := write_round k neg h hp hu
  refine ⟨_, h1, by rw [abs_mul_pow, sg_abs]; exact h2, ?_⟩
  have hc : c ≤ u - k.format.fractionBits := by
    rcases h3 with q | ⟨hm, q⟩
    · omega
    · have hlog : mag.log2 + a ≤ s := by
        rw [← log2_mul_pow a hm]
        have g1 : mag * 2 ^ a ≠ 0 := Nat.mul_ne_zero hm (Nat.ne_of_gt (Nat.two_pow_pos a))
        have g2 := Nat.log2_self_le g1
        rcases Nat.lt_or_ge s (mag * 2 ^ a).log2 with q | q
        · have := Nat.pow_lt_pow_right (a := 2) (by decide) q
          omega
        · exact q
      omega
  have hfin : 2 ^ (c + D) ≤ 2 ^ (D + (u - k.format.fractionBits)) := Nat.pow_le_pow_right (by decide) (by omega)
  refine Nat.le_trans ?_ hfin
  by_cases hm : mag = 0
  · rw [h4 hm, hm]
    simp [sg]
  · have hk := h5 hm
    obtain ⟨A, hA⟩ : ∃ A, A = (place - (lp k + c)).toNat := ⟨_, rfl⟩
    obtain ⟨B, hB⟩ : ∃ B, B = (lp k + c - place).toNat := ⟨_, rfl⟩
    rw [← hA, ← hB] at hk
    obtain ⟨n1, n2⟩ := cut_near neg (mag <<< A) B
    rw [← hk, Nat.shiftLeft_eq] at n1 n2
    have hBc : B ≤ c + D := by omega
    have e1 : kept * 2 ^ B * 2 ^ (c + D - B) = kept * 2 ^ (c + D) := by rw [Nat.mul_assoc, ← Nat.pow_add, show B + (c + D - B) = c + D by omega]
    have e2 : mag * 2 ^ A * 2 ^ (c + D - B) = mag * 2 ^ (place + D - lp k).toNat := by rw [Nat.mul_assoc, ← Nat.pow_add, show A + (c + D - B) = (place + D - lp k).toNat by omega]
    have e3 : 2 ^ B * 2 ^ (c + D - B) = 2 ^ (c + D) := by rw [← Nat.pow_add, show B + (c + D - B) = c + D by omega]
    have m1 := Nat.mul_le_mul_right (2 ^ (c + D - B)) n1
    have m2 := Nat.mul_le_mul_right (2 ^ (c + D - B)) n2
    rw [Nat.add_mul, e3, Nat.mul_assoc 2, Nat.mul_assoc 2, e1, e2] at m1 m2
    have e4 : sg neg kept * 2 ^ c * 2 ^ D = sg neg (kept * 2 ^ (c + D)) := by
      rw [Int.mul_assoc, ← Int.pow_add]
      unfold sg
      split <;> simp [Int.neg_mul]
    rw [e4]
    generalize kept * 2 ^ (c + D) = p at *
    generalize mag * 2 ^ (place + D - lp k).toNat = q at *
    unfold sg
    split <;> omega
theorem sum_err {k : FloatKind} {s1 s2 : Bool} {m1 m2 e1 e2 u : Nat} (h : (sg s1 m1 * 2 ^ e1 + sg s2 m2 * 2 ^ e2).natAbs ≤ 2 ^ u) (hu : u ≤ mx k) : ∃ r v, ((Datum.number s1 m1 (lp k + e1)).sum (.number s2 m2 (lp k + e2))).map k.format.write = some r ∧ fin k r v ∧ v.natAbs ≤ 2 ^ u ∧ (2 * (v - (sg s1 m1 * 2 ^ e1 + sg s2 m2 * 2 ^ e2))).natAbs ≤ 2 ^ (u - k.format.fractionBits) := by
  obtain ⟨c, hc, hc1, hc2⟩ : ∃ c : Nat, min (lp k + (e1 : Int)) (lp k + e2) = lp k + c ∧ c ≤ e1 ∧ c ≤ e2 := ⟨min e1 e2, by omega, by omega, by omega⟩
  have key : ∀ (s : Bool) (m e : Nat), c ≤ e → sg s m * 2 ^ e = sg s m * 2 ^ (e - c) * 2 ^ c := by
    intro s m e hce
    rw [Int.mul_assoc, ← Int.pow_add, show e - c + c = e by omega]
  rw [key s1 m1 e1 hc1, key s2 m2 e2 hc2, ← Int.add_mul] at h ⊢
  obtain ⟨T, hT⟩ : ∃ T, T = sg s1 m1 * 2 ^ (e1 - c) + sg s2 m2 * 2 ^ (e2 - c) := ⟨_, rfl⟩
  have hs : ((Datum.number s1 m1 (lp k + e1)).sum (.number s2 m2 (lp k + e2))).map k.format.write = some (k.encode (.number (if T = 0 then s1 && s2 else decide (T < 0)) T.natAbs (lp k + c))) := by
    simp only [Datum.sum, Option.map_some, signed_eq]
    rw [hc, show (lp k + (e1 : Int) - (lp k + c)).toNat = e1 - c by omega, show (lp k + (e2 : Int) - (lp k + c)).toNat = e2 - c by omega, ← hT]
    rfl
  rw [← hT] at h ⊢
  rw [abs_mul_pow] at h
  obtain ⟨v, g1, g2, g3⟩ := write_err k (if T = 0 then s1 && s2 else decide (T < 0)) (mag := T.natAbs) (a := c) (s := u) (u := u) (D := 0) (place := lp k + c) h (by omega) hu (by omega)
  refine ⟨_, v, hs, g1, g2, ?_⟩
  have e3 : (lp k + (c : Int) + ((0 : Nat) : Int) - lp k).toNat = c := by omega
  rw [e3, Int.pow_zero, Int.mul_one, Nat.zero_add] at g3
  have e4 : sg (if T = 0 then s1 && s2 else decide (T < 0)) (T.natAbs * 2 ^ c) = T * 2 ^ c := by
    by_cases q : T = 0
    · rw [q]; simp [sg]
    · rw [if_neg q]
      have : sg (decide (T < 0)) T.natAbs = T := sg_of T (fun _ => rfl)
      conv => rhs; rw [← this]
      unfold sg
      split <;> simp [Int.neg_mul]
  rw [e4] at g3
  exact g3
theorem add_err {k : FloatKind} {a b u : Nat} {va vb : Int} (ha : fin k a va) (hb : fin k b vb) (h : (va + vb).natAbs ≤ 2 ^ u) (hu : u ≤ mx k) : ∃ v, fin k (farith .add k a b) v ∧ v.natAbs ≤ 2 ^ u ∧ (2 * (v - (va + vb))).natAbs ≤ 2 ^ (u - k.format.fractionBits) := by
  obtain ⟨s1, m1, e1, d1, rfl⟩ := ha
  obtain ⟨s2, m2, e2, d2, rfl⟩ := hb
  obtain ⟨r, v, hs, g1, g2, g3⟩ := sum_err (k := k) h hu
  refine ⟨v, fin_arith (r := r) ?_ g1, g2, g3⟩
  show (((k.decode a).sum (k.decode b)).map k.format.write) = _
  rw [d1, d2]; exact hs
theorem sub_err {k : FloatKind} {a b u : Nat} {va vb : Int} (ha : fin k a va) (hb : fin k b vb) (h : (va - vb).natAbs ≤ 2 ^ u) (hu : u ≤ mx k) : ∃ v, fin k (farith .sub k a b) v ∧ v.natAbs ≤ 2 ^ u ∧ (2 * (v - (va - vb))).natAbs ≤ 2 ^ (u - k.format.fractionBits) := by
  obtain ⟨s1, m1, e1, d1, rfl⟩ := ha
  obtain ⟨s2, m2, e2, d2, rfl⟩ := hb
  have en : sg s1 m1 * 2 ^ e1 - sg s2 m2 * 2 ^ e2 = sg s1 m1 * 2 ^ e1 + sg (!s2) m2 * 2 ^ e2 := by
    have : sg (!s2) m2 = - sg s2 m2 := by cases s2 <;> simp [sg]
    rw [this, Int.neg_mul, Int.sub_eq_add_neg]
  rw [en] at h ⊢
  obtain ⟨r, v, hs, g1, g2, g3⟩ := sum_err (k := k) h hu
  refine ⟨v, fin_arith (r := r) ?_ g1, g2, g3⟩
  show (((k.decode a).sum (k.decode b).opposite).map k.format.write) = _
  rw [d1, d2]; exact hs
/-- Products: in units of 2 ^ (2 lp), which are finer. -/
theorem mul_err {k : FloatKind} {a b u : Nat} {va vb : Int} (ha : fin k a va) (hb : fin k b vb) (h : (va * vb).natAbs ≤ 2 ^ (u + (-lp k).toNat)) (hu : u ≤ mx k) : ∃ v, fin k (farith .mul k a b) v ∧ v.natAbs ≤ 2 ^ u ∧ (2 * (v * 2 ^ (-lp k).toNat - va * vb)).natAbs ≤ 2 ^ ((-lp k).toNat + (u - k.format.fractionBits)) := by
  obtain ⟨s1, m1, e1, d1, rfl⟩ := ha
  obtain ⟨s2, m2, e2, d2, rfl⟩ := hb
  have hlp : lp k ≤ 0 := by cases k <;> decide
  have hv : sg s1 m1 * 2 ^ e1 * (sg s2 m2 * 2 ^ e2) = sg (s1 ^^ s2) (m1 * m2 * 2 ^ (e1 + e2)) := by
    have e : sg s1 m1 * 2 ^ e1 * (sg s2 m2 * 2 ^ e2) = sg s1 m1 * sg s2 m2 * 2 ^ (e1 + e2) := by
      rw [Int.pow_add]; simp only [Int.mul_assoc, Int.mul_left_comm]
    rw [e]
    unfold sg
    cases s1 <;> cases s2 <;> simp [Int.neg_mul, Int.mul_neg]
  rw [hv, sg_abs] at h
  obtain ⟨v, g1, g2, g3⟩ := write_err k (s1 ^^ s2) (mag := m1 * m2) (a := e1 + e2) (s := u + (-lp k).toNat) (u := u) (D := (-lp k).toNat) (place := lp k + e1 + (lp k + e2)) h (by omega) hu (by omega)
  rw [hv]
  have e3 : (lp k + (e1 : Int) + (lp k + e2) + ((-lp k).toNat : Int) - lp k).toNat = e1 + e2 := by omega
  rw [e3] at g3
  refine ⟨v, fin_arith (r := k.encode (.number (s1 ^^ s2) (m1 * m2) (lp k + e1 + (lp k + e2)))) ?_ g1, g2, g3⟩
  show (((k.decode a).product (k.decode b)).map k.format.write) = _
  rw [d1, d2]; rfl
/-- A wide float as a narrow one. -/
theorem narrow_err {b u : Nat} {vb : Int} (hb : fin .f64 b vb) (h : vb.natAbs ≤ 2 ^ (u + 925)) (hu : u ≤ 275) : ∃ r v, fconv .f64 b .f32 = some r ∧ fin .f32 r v ∧ v.natAbs ≤ 2 ^ u ∧ (2 * (v * 2 ^ 925 - vb)).natAbs ≤ 2 ^ (925 + (u - 23)) := by
  have hcf := hb.notNaN
  obtain ⟨s, m, e, d, rfl⟩ := hb
  rw [abs_mul_pow, sg_abs] at h
  have hlp : lp .f32 = lp .f64 + 925 := by decide
  obtain ⟨v, g1, g2, g3⟩ := write_err .f32 s (mag := m) (a := e) (s := u + 925) (u := u) (D := 925) (place := lp .f64 + e) h (by omega) hu (by omega)
  have hni := notInf g1
  have e3 : (lp .f64 + (e : Int) + ((925 : Nat) : Int) - lp .f32).toNat = e := by omega
  rw [e3] at g3
  have e4 : sg s (m * 2 ^ e) = sg s m * 2 ^ e := by unfold sg; split <;> simp [Int.neg_mul]
  rw [e4] at g3
  refine ⟨FloatKind.f32.encode (.number s m (lp .f64 + e)), v, ?_, g1, g2, g3⟩
  unfold fconv
  rw [hcf]
  simp only [Bool.false_eq_true, if_false, floatToFloatBits, d, hni, Option.map_some]
  rw [if_neg (by decide)]
  simp only [Option.map_some, g1.cf]
end Go.Proofs.Ytkhipobafchilaa.Sim.Fl

/- How great roots are. Lemmas only; no condition. -/
set_option linter.unusedSimpArgs false
set_option linter.unusedVariables false
namespace Go.Proofs.Ytkhipobafchilaa.Sim.Fl
open Ieee Go
theorem root_sq {n : Nat} : ∀ (todo root : Nat), root * root ≤ n → Datum.rootFrom n todo root * Datum.rootFrom n todo root ≤ n
  | 0, root, h => h
  | todo + 1, root, h => by
    unfold Datum.rootFrom
    simp only
    split
    · rename_i q
      exact root_sq todo _ q
    · exact root_sq todo _ h
theorem sq_le {a b : Nat} (h : a * a ≤ 2 ^ (b + b)) : a ≤ 2 ^ b := by
  rw [Nat.pow_add] at h
  exact Nat.mul_self_le_mul_self_iff.1 h
theorem sticky_le {w n : Nat} (h : w * w ≤ n) (hn : 1 ≤ n) : (2 * w + (w * w != n).toNat) * (2 * w + (w * w != n).toNat) ≤ 16 * n := by
  have hb : (w * w != n).toNat ≤ 1 := by cases (w * w != n) <;> decide
  by_cases h0 : w = 0
  · subst h0
    have h1 : 2 * 0 + (0 * 0 != n).toNat ≤ 1 := by omega
    have := Nat.mul_le_mul h1 h1
    omega
  · have h1 : 2 * w + (w * w != n).toNat ≤ 3 * w := by omega
    have h2 := Nat.mul_le_mul h1 h1
    have e : 3 * w * (3 * w) = 9 * (w * w) := by rw [Nat.mul_mul_mul_comm]
    omega
/-- A root is at most twice the root of a power of two. -/
theorem sqrt_bd {x m e w t : Nat} {sn : Bool} (hd : FloatKind.f64.decode x = .number sn m (lp .f64 + e)) (hsn : m ≠ 0 → sn = false) (hm : m * 2 ^ e ≤ 2 ^ w) (ht : t + t = w + 1076) (hu : t ≤ 2096) : ∃ r, FloatKind.f64.format.sqrt x = some r ∧ bd .f64 t r := by
  have hlp : lp .f64 = -1074 := by decide
  have hfb : FloatKind.f64.format.fractionBits = 52 := rfl
  by_cases hm0 : m = 0
  · refine ⟨FloatKind.f64.encode (.number sn 0 (lp .f64 + e)), ?_, write_bd .f64 sn (mag := 0) (a := e) (s := t) (u := t) (place := lp .f64 + e) (by rw [Nat.zero_mul]; exact Nat.zero_le _) (by omega) hu⟩
    show ((FloatKind.f64.decode x).root (FloatKind.f64.format.fractionBits + 2)).map FloatKind.f64.format.write = _
    rw [hd]
    simp only [Datum.root, if_pos hm0]
    rw [hm0]
    rfl
  · obtain rfl := hsn hm0
    obtain ⟨mo, hmo⟩ : ∃ mo : Nat, mo = 2 * (52 + 2) - m.log2 := ⟨_, rfl⟩
    obtain ⟨mo2, hmo2⟩ : ∃ mo2 : Nat, mo2 = mo + ((lp .f64 + (e : Int) - mo) % 2).toNat := ⟨_, rfl⟩
    obtain ⟨n, hn⟩ : ∃ n : Nat, n = m <<< mo2 := ⟨_, rfl⟩
    obtain ⟨wh, hwh⟩ : ∃ wh : Nat, wh = Datum.rootFrom n (n.log2 / 2 + 1) 0 := ⟨_, rfl⟩
    obtain ⟨g, hg⟩ : ∃ g : Int, lp .f64 + (e : Int) - mo2 = g + g := ⟨(lp .f64 + (e : Int) - mo2) / 2, by omega⟩
    have hq : FloatKind.f64.format.sqrt x = some (FloatKind.f64.encode (.number false (2 * wh + (wh * wh != n).toNat) (g - 1))) := by
      show ((FloatKind.f64.decode x).root (FloatKind.f64.format.fractionBits + 2)).map FloatKind.f64.format.write = _
      rw [hd]
      simp only [Datum.root, if_neg hm0, Bool.false_eq_true, if_false, hfb, ← hmo, ← hmo2, ← hn, ← hwh, Option.map_some]
      congr 2
      rw [hg]
      have : (g + g) / 2 = g := by omega
      rw [this]
    refine ⟨_, hq, ?_⟩
    have n1 : 1 ≤ n := by
      rw [hn, Nat.shiftLeft_eq]
      exact Nat.mul_pos (Nat.pos_of_ne_zero hm0) (Nat.two_pow_pos _)
    have sq := sticky_le (w := wh) (n := n) (by rw [hwh]; exact root_sq _ _ (Nat.zero_le _)) n1
    have hew : e ≤ w := by
      rcases Nat.lt_or_ge w e with q | q
      · have h1 := Nat.pow_lt_pow_right (a := 2) (by decide) q
        have h2 : 1 * 2 ^ e ≤ m * 2 ^ e := Nat.mul_le_mul_right _ (Nat.pos_of_ne_zero hm0)
        omega
      · exact q
    have hmw : m ≤ 2 ^ (w - e) := by
      have e1 : 2 ^ w = 2 ^ (w - e) * 2 ^ e := by rw [← Nat.pow_add]; congr 1; omega
      rw [e1] at hm
      exact Nat.le_of_mul_le_mul_right hm (Nat.two_pow_pos e)
    obtain ⟨S, hS⟩ : ∃ S : Nat, (S : Int) = lp .f64 + t - g + 1 := ⟨(lp .f64 + t - g + 1).toNat, by omega⟩
    have hle : 16 * n ≤ 2 ^ (S + S) := by
      have e1 : 16 * n = 2 ^ 4 * m * 2 ^ mo2 := by rw [hn, Nat.shiftLeft_eq, Nat.mul_assoc]
      have e2 : 2 ^ (S + S) = 2 ^ 4 * 2 ^ (w - e) * 2 ^ mo2 := by rw [← Nat.pow_add, ← Nat.pow_add]; congr 1; omega
      rw [e1, e2]
      exact Nat.mul_le_mul_right _ (Nat.mul_le_mul_left _ hmw)
    exact write_bd .f64 false (mag := 2 * wh + (wh * wh != n).toNat) (a := 0) (s := S) (u := t) (place := g - 1) (by rw [Nat.pow_zero, Nat.mul_one]; exact sq_le (Nat.le_trans sq hle)) (by omega) hu
/-- A square is not negative. -/
theorem sq_nn {k : FloatKind} {a u t : Nat} (ha : bd k u a) (ht : (t : Int) = u + u + lp k) (hu : t ≤ mx k) : ∃ v, fin k (farith .mul k a a) v ∧ 0 ≤ v ∧ v.natAbs ≤ 2 ^ t := by
  obtain ⟨s1, m1, e1, d1, v1⟩ := ha.parts
  have hprod : m1 * m1 * 2 ^ (e1 + e1) ≤ 2 ^ (u + u) := by
    rw [Nat.pow_add, Nat.pow_add]
    calc m1 * m1 * (2 ^ e1 * 2 ^ e1) = (m1 * 2 ^ e1) * (m1 * 2 ^ e1) := by simp only [Nat.mul_assoc, Nat.mul_left_comm]
      _ ≤ 2 ^ u * 2 ^ u := Nat.mul_le_mul v1 v1
  obtain ⟨kept, c, h1, h2, _⟩ := write_round k (s1 ^^ s1) (mag := m1 * m1) (a := e1 + e1) (s := u + u) (u := t) (place := lp k + e1 + (lp k + e1)) hprod (by omega) hu
  have hs : (s1 ^^ s1) = false := by cases s1 <;> rfl
  refine ⟨sg (s1 ^^ s1) kept * 2 ^ c, fin_arith (r := k.encode (.number (s1 ^^ s1) (m1 * m1) (lp k + e1 + (lp k + e1)))) ?_ h1, ?_, by rw [abs_mul_pow, sg_abs]; exact h2⟩
  · show (((k.decode a).product (k.decode a)).map k.format.write) = _
    rw [d1]; rfl
  · rw [hs]
    exact Int.mul_nonneg (by simp [sg]) (Int.le_of_lt (pow_pos c))
/-- A sum of two that are not negative is not. -/
theorem add_nn {k : FloatKind} {a b u : Nat} {va vb : Int} (ha : fin k a va) (hb : fin k b vb) (na : 0 ≤ va) (nb : 0 ≤ vb) (la : va.natAbs ≤ 2 ^ u) (lb : vb.natAbs ≤ 2 ^ u) (hu : u + 1 ≤ mx k) : ∃ v, fin k (farith .add k a b) v ∧ 0 ≤ v ∧ v.natAbs ≤ 2 ^ (u + 1) := by
  obtain ⟨s1, m1, e1, d1, rfl⟩ := ha
  obtain ⟨s2, m2, e2, d2, rfl⟩ := hb
  obtain ⟨c, hc, hc1, hc2⟩ : ∃ c : Nat, min (lp k + (e1 : Int)) (lp k + e2) = lp k + c ∧ c ≤ e1 ∧ c ≤ e2 := ⟨min e1 e2, by omega, by omega, by omega⟩
  have key : ∀ (s : Bool) (m e : Nat), c ≤ e → sg s m * 2 ^ e = sg s m * 2 ^ (e - c) * 2 ^ c := by
    intro s m e hce
    rw [Int.mul_assoc, ← Int.pow_add, show e - c + c = e by omega]
  rw [key s1 m1 e1 hc1] at na la
  rw [key s2 m2 e2 hc2] at nb lb
  obtain ⟨A, hA⟩ : ∃ A, A = sg s1 m1 * 2 ^ (e1 - c) := ⟨_, rfl⟩
  obtain ⟨B, hB⟩ : ∃ B, B = sg s2 m2 * 2 ^ (e2 - c) := ⟨_, rfl⟩
  rw [← hA] at na la
  rw [← hB] at nb lb
  have hp := pow_pos c
  have nA : 0 ≤ A := Int.nonneg_of_mul_nonneg_left na hp
  have nB : 0 ≤ B := Int.nonneg_of_mul_nonneg_left nb hp
  have hs : floatBits .add k a b = some (k.encode (.number (if A + B = 0 then s1 && s2 else decide (A + B < 0)) (A + B).natAbs (lp k + c))) := by
    show (((k.decode a).sum (k.decode b)).map k.format.write) = _
    rw [d1, d2]
    simp only [Datum.sum, Option.map_some, signed_eq]
    rw [hc, show (lp k + (e1 : Int) - (lp k + c)).toNat = e1 - c by omega, show (lp k + (e2 : Int) - (lp k + c)).toNat = e2 - c by omega, ← hA, ← hB]
    rfl
  rw [abs_mul_pow] at la lb
  obtain ⟨kept, c', h1, h2, _, h4, _⟩ := write_round k (if A + B = 0 then s1 && s2 else decide (A + B < 0)) (mag := (A + B).natAbs) (a := c) (s := u + 1) (u := u + 1) (place := lp k + c) (by
    have : (A + B).natAbs = A.natAbs + B.natAbs := by omega
    rw [this, Nat.add_mul, Nat.pow_succ]
    omega) (by omega) hu
  refine ⟨_, fin_arith hs h1, ?_, by rw [abs_mul_pow, sg_abs]; exact h2⟩
  by_cases q : A + B = 0
  · rw [h4 (by omega)]
    have : ∀ z : Bool, sg z 0 = 0 := fun z => by cases z <;> rfl
    rw [this, Int.zero_mul]
    exact Int.le_refl 0
  · rw [if_neg q, decide_eq_false (by omega)]
    exact Int.mul_nonneg (by simp [sg]) (Int.le_of_lt (pow_pos c'))
end Go.Proofs.Ytkhipobafchilaa.Sim.Fl
