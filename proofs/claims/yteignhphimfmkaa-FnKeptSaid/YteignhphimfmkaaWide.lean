/- A single float as a double: it is never too great. Lemmas only; no condition. -/
import Derived.Test.YteignhphimfmkaaFlt
set_option linter.unusedSimpArgs false
set_option linter.unusedVariables false
namespace Go.Proofs.Yteignhphimfmkaa.Sim
open Go Go.RowKit

theorem read_fin {neg : Bool} {r : Nat} (hr : r < 9218868437227405312) : (Ieee.double.read (Ieee.double.word neg r)).isInfinity = false := by
  have hw : Ieee.double.word neg r % 9223372036854775808 = r := by
    simp only [Ieee.Format.word, Ieee.Format.signWeight, Ieee.double]
    cases neg
    · simp only [Bool.false_eq_true, if_false]; omega
    · simp only [if_true]; omega
  unfold Ieee.Format.read
  simp only [show Ieee.double.signWeight = 9223372036854775808 from by decide, show Ieee.double.binade = 4503599627370496 from by decide, show Ieee.double.infRung = 9218868437227405312 from by decide, hw]
  split
  · rfl
  · first
    | rfl
    | (rw [if_pos hr]; rfl)
theorem min_fin {q K : Nat} (hp : q ≤ 1149) (hk : K < 9007199254740992) : min (q * 4503599627370496 + K) 9218868437227405312 < 9218868437227405312 :=
  Nat.lt_of_le_of_lt (Nat.min_le_left _ _) (Nat.lt_of_lt_of_le (Nat.add_lt_add_of_le_of_lt (Nat.mul_le_mul_right _ hp) hk) (by decide))
theorem near_fin {neg : Bool} {mag : Nat} {place : Int} (h1 : mag < 16777216) (h2 : place ≤ 104) (h3 : -149 ≤ place) : (Ieee.double.read (Ieee.double.nearest neg mag place)).isInfinity = false := by
  unfold Ieee.Format.nearest
  split
  · exact read_fin (by decide)
  · rename_i hm
    have hl : mag.log2 ≤ 23 := by
      have : mag.log2 < 24 := (Nat.log2_lt hm).2 (by omega)
      omega
    have hlast : max (place + mag.log2 - Ieee.double.fractionBits) Ieee.double.leastPlace = place + mag.log2 - 52 := by
      rw [show Ieee.double.leastPlace = -1074 from by decide, show Ieee.double.fractionBits = 52 from rfl]
      omega
    simp only [hlast]
    have e1 : (place - (place + mag.log2 - 52)).toNat = 52 - mag.log2 := by omega
    have e2 : (place + mag.log2 - 52 - place).toNat = 0 := by omega
    rw [e1, e2]
    have hk : mag <<< (52 - mag.log2) < 9007199254740992 := by
      rw [Nat.shiftLeft_eq]
      have hlt : mag < 2 ^ (mag.log2 + 1) := Nat.lt_log2_self
      have : mag * 2 ^ (52 - mag.log2) < 2 ^ (mag.log2 + 1) * 2 ^ (52 - mag.log2) := Nat.mul_lt_mul_of_pos_right hlt (Nat.two_pow_pos _)
      rw [← Nat.pow_add, show mag.log2 + 1 + (52 - mag.log2) = 53 by omega] at this
      exact this
    have hc : Ieee.Toward.even.cut neg (mag <<< (52 - mag.log2)) 0 = mag <<< (52 - mag.log2) := by
      unfold Ieee.Toward.cut
      simp [Nat.mod_one]
    rw [hc, show Ieee.double.leastPlace = -1074 from by decide, show Ieee.double.binade = 4503599627370496 from by decide, show Ieee.double.infRung = 9218868437227405312 from by decide]
    have hp : (place + mag.log2 - 52 - -1074).toNat ≤ 1149 := by omega
    refine read_fin ?_
    exact min_fin hp hk
theorem wide_num {b : Nat} {s : Bool} {m : Nat} {e : Int} (hd : Ieee.single.read b = .number s m e) : m < 16777216 ∧ e ≤ 104 ∧ -149 ≤ e := by
  unfold Ieee.Format.read at hd
  simp only [show Ieee.single.signWeight = 2147483648 from by decide, show Ieee.single.binade = 8388608 from by decide, show Ieee.single.infRung = 2139095040 from by decide, show Ieee.single.leastPlace = -149 from by decide] at hd
  split at hd
  · simp only [Ieee.Datum.number.injEq] at hd
    omega
  · split at hd
    · simp only [Ieee.Datum.number.injEq] at hd
      omega
    · split at hd
      · simp at hd
      · simp at hd
theorem wide (b : Nat) : ∃ c, fconv .f32 b .f64 = some c := by
  unfold fconv
  split
  · exact ⟨_, rfl⟩
  · rename_i hn
    cases hd : FloatKind.f32.decode b with
    | nan s f => rw [hd] at hn; exact absurd rfl hn
    | infinity s =>
      have h1 : floatToFloatBits .f32 b .f64 = some (FloatKind.f64.encode (.infinity s)) := by
        unfold floatToFloatBits
        rw [if_neg (by decide), hd]
      exact ⟨cf .f64 (FloatKind.f64.encode (.infinity s)), by rw [h1, Option.map_some]⟩
    | number s m e =>
      obtain ⟨b1, b2, b3⟩ := wide_num hd
      have hf : (FloatKind.f64.decode (FloatKind.f64.encode (.number s m e))).isInfinity = false := near_fin b1 b2 b3
      have h1 : floatToFloatBits .f32 b .f64 = some (FloatKind.f64.encode (.number s m e)) := by
        unfold floatToFloatBits
        rw [if_neg (by decide), hd]
        simp only [hf, Bool.false_eq_true, if_false]
      exact ⟨cf .f64 (FloatKind.f64.encode (.number s m e)), by rw [h1, Option.map_some]⟩
/-- The mark of a number. -/
def mkb (c : Int) : Nat := (fconv .f64 (cf .f64 (FloatKind.f64.nearest c)) .f32).getD 0
def mkOk (c : Int) : Bool := (fconv .f64 (cf .f64 (FloatKind.f64.nearest c)) .f32).isSome && !(FloatKind.f32.decode (mkb c)).isNaN
theorem mk_all : ((List.range 2048).all fun i => mkOk (i : Int)) = true := by decide +kernel
theorem mk_one : fconv .f64 4607182418800017408 .f32 = some 1065353216 := by decide +kernel
theorem mk_nan1 : (FloatKind.f32.decode 1065353216).isNaN = false := by decide +kernel
theorem mk_at {c : Int} (h0 : 0 ≤ c) (h1 : c < 2048) : fconv .f64 (cf .f64 (FloatKind.f64.nearest c)) .f32 = some (mkb c) ∧ (FloatKind.f32.decode (mkb c)).isNaN = false := by
  have h := List.all_eq_true.1 mk_all c.toNat (List.mem_range.2 (by omega))
  rw [show (c.toNat : Int) = c by omega] at h
  simp only [mkOk, Bool.and_eq_true, Bool.not_eq_true'] at h
  obtain ⟨v, hv⟩ := Option.isSome_iff_exists.1 h.1
  refine ⟨?_, h.2⟩
  unfold mkb
  rw [hv]; rfl
end Go.Proofs.Yteignhphimfmkaa.Sim
