/- Jobs that have not ended, in plain Lean. Lemmas only; no condition. -/
import Derived.Test.YtbakaopgdcojfaaSld
set_option linter.unusedSimpArgs false
set_option linter.unusedVariables false
namespace Go.Proofs.Ytbakaopgdcojfaa.Sim
open Go Go.RowKit
/-- Whether a slot's job, of the beam 'k', has ended by a tick. -/
def dnB (l s : List Int) (u : Int) (k i : Nat) : Bool := decide (nth s (i * 2) = (k : Int)) && decide (nth s (i * 2 + 1) + nth l (k * 4 + 2) ≤ u)
/-- How many of the first slots have. -/
def dn (l s : List Int) (u : Int) (k : Nat) : Nat → Int
  | 0 => 0
  | i + 1 => dn l s u k i + (if dnB l s u k i = true then 1 else 0)
/-- How many of the first slots have, those alone whose jobs were due. -/
def du (l : List Int) (m : Nat) (s : List Int) (u : Int) (k : Nat) : Nat → Int
  | 0 => 0
  | i + 1 => du l m s u k i + (if dnB l s u k i = true ∧ (cn m s i k + 1) * nth l (k * 4 + 3) ≤ u then 1 else 0)
theorem dn_range (l s : List Int) (u : Int) (k : Nat) : ∀ i, 0 ≤ dn l s u k i ∧ dn l s u k i ≤ i
  | 0 => by simp [dn]
  | i + 1 => by
    have := dn_range l s u k i
    simp only [dn]
    split <;> omega
theorem dn_cn {l : List Int} {m : Nat} {s : List Int} {u : Int} {k : Nat} : ∀ i, i ≤ m → dn l s u k i ≤ cn m s i k
  | 0, _ => by rw [cn_zero]; simp [dn]
  | i + 1, h => by
    have := dn_cn (l := l) (m := m) (s := s) (u := u) (k := k) i (by omega)
    rw [cn_succ (show i < m by omega)]
    simp only [dn, dnB, Bool.and_eq_true, decide_eq_true_eq]
    split <;> split <;> omega
/-- Ticks of slots rise. -/
theorem at_mono {n m : Nat} {l s : List Int} (hb : isB n l = true) (ok : ∀ i, i < m → SlOk n l m s i) : ∀ j i, i ≤ j → j < m → nth s (i * 2 + 1) ≤ nth s (j * 2 + 1)
  | 0, i, h, _ => by rw [show i = 0 by omega]; exact Int.le_refl _
  | j + 1, i, h, hj => by
    rcases Nat.lt_or_eq_of_le h with q | q
    · have ih := at_mono hb ok j i (by omega) (by omega)
      have o := ok (j + 1) hj
      have o2 := ok j (by omega)
      have g := o.gap (by omega)
      rw [show j + 1 - 1 = j by omega] at g
      have b1 := (o.br hb).1
      have b2 := (o2.br hb).1
      have d := b2.d
      have sw := swt_range b2.u b2.v b1.u b1.v
      omega
    · rw [q]; exact Int.le_refl _
/-- If a job of a beam has ended, all earlier ones have. -/
theorem dn_all {n m : Nat} {l s : List Int} {u : Int} {k : Nat} (hb : isB n l = true) (ok : ∀ i, i < m → SlOk n l m s i) {j : Nat} (hj : j < m) (hd : nth s (j * 2 + 1) + nth l (k * 4 + 2) ≤ u) : ∀ i, i ≤ j → dn l s u k i = cn m s i k
  | 0, _ => by rw [cn_zero]; rfl
  | i + 1, h => by
    have ih := dn_all hb ok hj hd i (by omega)
    have hm := at_mono hb ok j i (by omega) hj
    rw [cn_succ (show i < m by omega)]
    simp only [dn, dnB, Bool.and_eq_true, decide_eq_true_eq, ih]
    split <;> split <;> omega
theorem du_min {n m : Nat} {l s : List Int} {u : Int} {k : Nat} (hb : isB n l = true) (ok : ∀ i, i < m → SlOk n l m s i) (hk : k < n) (hu : 0 ≤ u) : ∀ i, i ≤ m → du l m s u k i = min (dn l s u k i) (u / nth l (k * 4 + 3))
  | 0, _ => by
    have bp := (br hb hk).p
    have bd := (br hb hk).d
    have := Int.ediv_nonneg hu (show 0 ≤ nth l (k * 4 + 3) by omega)
    simp only [du, dn]
    omega
  | i + 1, h => by
    have ih := du_min hb ok hk hu i (by omega)
    have bp := (br hb hk).p
    have bd := (br hb hk).d
    have hev : 0 < nth l (k * 4 + 3) := by omega
    simp only [du, dn]
    by_cases hdn : dnB l s u k i = true
    · have hx := hdn
      simp only [dnB, Bool.and_eq_true, decide_eq_true_eq] at hx
      have ha := dn_all hb ok (show i < m by omega) hx.2 i (Nat.le_refl _)
      have hdiv : (cn m s i k + 1) * nth l (k * 4 + 3) ≤ u ↔ cn m s i k + 1 ≤ u / nth l (k * 4 + 3) := (Int.le_ediv_iff_mul_le hev).symm
      rw [if_pos hdn, ih, ha]
      by_cases hc : cn m s i k + 1 ≤ u / nth l (k * 4 + 3)
      · rw [if_pos ⟨hdn, hdiv.2 hc⟩]; omega
      · rw [if_neg (fun q => hc (hdiv.1 q.2))]; omega
    · rw [if_neg hdn, if_neg (fun q => hdn q.1), ih]; omega
/-- How many jobs of the first beams have not ended. -/
def missI (l : List Int) (m : Nat) (s : List Int) (u : Int) (k : Nat) : Int := max 0 (u / nth l (k * 4 + 3) - dn l s u k m)
def missL (n : Nat) (l : List Int) (m : Nat) (s : List Int) (u : Int) (i : Nat) : List Int := (List.range i).map (missI l m s u)
theorem missL_succ (n : Nat) (l : List Int) (m : Nat) (s : List Int) (u : Int) (i : Nat) : vints (missL n l m s u (i + 1)) = vints (missL n l m s u i) ++ [.int .i64 (missI l m s u i)] := by
  simp [missL, List.range_succ, vints]
theorem missL_len (n : Nat) (l : List Int) (m : Nat) (s : List Int) (u : Int) (i : Nat) : (missL n l m s u i).length = i := by simp [missL]
theorem missI_du {n m : Nat} {l s : List Int} {u : Int} {k : Nat} (hb : isB n l = true) (ok : ∀ i, i < m → SlOk n l m s i) (hk : k < n) (hu : 0 ≤ u) : u / nth l (k * 4 + 3) - du l m s u k m = missI l m s u k := by
  rw [du_min hb ok hk hu m (Nat.le_refl _)]
  unfold missI
  omega
noncomputable def plU (n : Nat) (l : List Int) (m : Nat) (s : List Int) (u : Int) : Bool := plB n l m s && (decide (0 ≤ u) && decide (u ≤ 100000))
end Go.Proofs.Ytbakaopgdcojfaa.Sim
