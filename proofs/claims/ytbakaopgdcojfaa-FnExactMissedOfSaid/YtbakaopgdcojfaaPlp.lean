/- Plans of beams, in plain Lean: the next job, and plans step by step. Lemmas only; no condition. -/
import Derived.Test.YtbakaopgdcojfaaSimZ
import Derived.Test.YtbakaopgdcojfaaPla
set_option linter.unusedVariables false
namespace Go.Proofs.Ytbakaopgdcojfaa.Sim
open Go Go.RowKit
/-- When the next job of a beam is released. -/
def rl (l js : List Int) (i : Nat) : Int := nth js (i * 1) * nth l (i * 4 + 3)
/-- Which of the first beams is next at a tick. -/
def bst (l js : List Int) (t : Int) : Nat → Int
  | 0 => -1
  | i + 1 => if rl l js i ≤ t ∧ (bst l js t i < 0 ∨ rl l js i + nth l (i * 4 + 3) < rl l js (bst l js t i).toNat + nth l ((bst l js t i).toNat * 4 + 3)) then (i : Int) else bst l js t i
/-- When the first of the first beams is released. -/
def smn (l js : List Int) : Nat → Int
  | 0 => -1
  | i + 1 => if smn l js i < 0 ∨ rl l js i < smn l js i then rl l js i else smn l js i
theorem bst_yes {l js : List Int} {t : Int} {i : Nat} (h : nth js (i * 1) * nth l (i * 4 + 3) ≤ t ∧ (bst l js t i < 0 ∨ nth js (i * 1) * nth l (i * 4 + 3) + nth l (i * 4 + 3) < nth js ((bst l js t i).toNat * 1) * nth l ((bst l js t i).toNat * 4 + 3) + nth l ((bst l js t i).toNat * 4 + 3))) : (i : Int) = bst l js t (i + 1) := (if_pos h).symm
theorem bst_no {l js : List Int} {t : Int} {i : Nat} (h : ¬ (nth js (i * 1) * nth l (i * 4 + 3) ≤ t ∧ (bst l js t i < 0 ∨ nth js (i * 1) * nth l (i * 4 + 3) + nth l (i * 4 + 3) < nth js ((bst l js t i).toNat * 1) * nth l ((bst l js t i).toNat * 4 + 3) + nth l ((bst l js t i).toNat * 4 + 3)))) : bst l js t i = bst l js t (i + 1) := (if_neg h).symm
theorem smn_yes {l js : List Int} {i : Nat} (h : smn l js i < 0 ∨ nth js (i * 1) * nth l (i * 4 + 3) < smn l js i) : nth js (i * 1) * nth l (i * 4 + 3) = smn l js (i + 1) := (if_pos h).symm
theorem smn_no {l js : List Int} {i : Nat} (h : ¬ (smn l js i < 0 ∨ nth js (i * 1) * nth l (i * 4 + 3) < smn l js i)) : smn l js i = smn l js (i + 1) := (if_neg h).symm
theorem bst_range (l js : List Int) (t : Int) : ∀ i, -1 ≤ bst l js t i ∧ bst l js t i < i ∧ (0 ≤ bst l js t i → rl l js (bst l js t i).toNat ≤ t)
  | 0 => ⟨by simp [bst], by simp [bst], by simp [bst]⟩
  | i + 1 => by
    have ih := bst_range l js t i
    simp only [bst]
    split
    · rename_i h
      refine ⟨by omega, by omega, fun _ => ?_⟩
      rw [Int.toNat_natCast]; exact h.1
    · exact ⟨ih.1, by omega, ih.2.2⟩
theorem bst_neg (l js : List Int) (t : Int) : ∀ i, bst l js t i < 0 → ∀ j, j < i → t < rl l js j
  | 0, _, j, hj => by omega
  | i + 1, h, j, hj => by
    simp only [bst] at h
    split at h
    · omega
    · rename_i hc
      have ih := bst_neg l js t i h
      rcases Nat.lt_or_eq_of_le (show j ≤ i by omega) with q | q
      · exact ih j q
      · subst q
        by_cases w : rl l js j ≤ t
        · exact absurd ⟨w, .inl h⟩ hc
        · omega
theorem smn_spec (l js : List Int) : ∀ i, (∀ j, j < i → 0 ≤ rl l js j) → 0 < i → 0 ≤ smn l js i ∧ (∀ j, j < i → smn l js i ≤ rl l js j) ∧ ∃ j, j < i ∧ smn l js i = rl l js j
  | 0, _, h0 => by omega
  | i + 1, h, _ => by
    by_cases hi : i = 0
    · subst hi
      have h1 : smn l js (0 + 1) = rl l js 0 := by simp [smn]
      rw [h1]
      refine ⟨h 0 (by omega), fun j hj => ?_, 0, by omega, rfl⟩
      have : j = 0 := by omega
      subst this; exact Int.le_refl _
    · have ih := smn_spec l js i (fun j hj => h j (by omega)) (by omega)
      obtain ⟨a, b, c, hc, d⟩ := ih
      simp only [smn]
      split
      · rename_i w
        refine ⟨h i (by omega), fun j hj => ?_, i, by omega, rfl⟩
        rcases Nat.lt_or_eq_of_le (show j ≤ i by omega) with q | q
        · have := b j q; omega
        · subst q; exact Int.le_refl _
      · rename_i w
        refine ⟨a, fun j hj => ?_, c, by omega, d⟩
        rcases Nat.lt_or_eq_of_le (show j ≤ i by omega) with q | q
        · exact b j q
        · subst q; omega
theorem bst_pos {l js : List Int} {n : Nat} (h : ∀ j, j < n → 0 ≤ rl l js j) (hn : 0 < n) {t : Int} (ht : smn l js n ≤ t) : ¬ bst l js t n < 0 := fun hb => by
  obtain ⟨_, _, j, hj, e⟩ := smn_spec l js n h hn
  have := bst_neg l js t n hb j hj
  omega
theorem smn_le {l js : List Int} {n : Nat} (h : ∀ j, j < n → 0 ≤ rl l js j) (hn : 0 < n) {t : Int} (hb : 0 ≤ bst l js t n) : smn l js n ≤ t := by
  obtain ⟨_, b, _⟩ := smn_spec l js n h hn
  have h2 := bst_range l js t n
  have := b (bst l js t n).toNat (by omega)
  have := h2.2.2 hb
  omega
theorem le_smn {l js : List Int} {n : Nat} (h : ∀ j, j < n → 0 ≤ rl l js j) (hn : 0 < n) {t : Int} (hb : bst l js t n < 0) : t ≤ smn l js n := by
  obtain ⟨_, _, j, hj, e⟩ := smn_spec l js n h hn
  have := bst_neg l js t n hb j hj
  omega
/-- What is planned: jobs done of each beam, how many slots, the slots, the tick. -/
structure Pst where
  js : List Int
  c : Nat
  sl : List Int
  t : Int
/-- The tick at which the next job begins, before the switch. -/
def Pst.tt (s : Pst) (l : List Int) (n : Nat) : Int := max s.t (smn l s.js n)
abbrev lastB (c : Nat) (sl : List Int) : Nat := (nth sl ((c - 1) * 2)).toNat
/-- When the next job begins, if it is that of beam 'b'. -/
def atT (l : List Int) (c : Nat) (sl : List Int) (t : Int) (b : Nat) : Int := t + (if 0 < c then swt (nth l (lastB c sl * 4)) (nth l (lastB c sl * 4 + 1)) (nth l (b * 4)) (nth l (b * 4 + 1)) else 0)
/-- One job more, at a tick at which one is released; none: the plan is whole. -/
def stepT (l : List Int) (n : Nat) (total : Int) (js : List Int) (c : Nat) (sl : List Int) (t : Int) : Option Pst :=
  if 200 ≤ c ∨ total ≤ atT l c sl t (bst l js t n).toNat then none
  else some ⟨js.set ((bst l js t n).toNat * 1) (nth js ((bst l js t n).toNat * 1) + 1), c + 1, sl ++ [bst l js t n, atT l c sl t (bst l js t n).toNat], atT l c sl t (bst l js t n).toNat + nth l ((bst l js t n).toNat * 4 + 2)⟩
def Pst.step (s : Pst) (l : List Int) (n : Nat) (total : Int) : Option Pst := stepT l n total s.js s.c s.sl (s.tt l n)
inductive PlanR (l : List Int) (n : Nat) (total : Int) : Pst → Nat → List Int → Prop
  | stop (s : Pst) (h : s.step l n total = none) : PlanR l n total s s.c s.sl
  | go (s s' : Pst) (c : Nat) (r : List Int) (h : s.step l n total = some s') (k : PlanR l n total s' c r) : PlanR l n total s c r
theorem PlanR.uniq {l : List Int} {n : Nat} {total : Int} {s : Pst} {c c' : Nat} {r r' : List Int} (h : PlanR l n total s c r) : PlanR l n total s c' r' → c = c' ∧ r = r' := by
  induction h with
  | stop s h =>
    intro k
    cases k with
    | stop => exact ⟨rfl, rfl⟩
    | go _ s' _ _ h' _ => rw [h] at h'; cases h'
  | go s s' c r h k ih =>
    intro k'
    cases k' with
    | stop _ h' => rw [h] at h'; cases h'
    | go _ s2 _ _ h' k2 => rw [h] at h'; cases h'; exact ih k2
/-- The tick may be moved to the first release, where nothing is released before. -/
theorem PlanR.move {l : List Int} {n : Nat} {total : Int} {js sl : List Int} {c : Nat} {t : Int} (h : t ≤ smn l js n) {c' : Nat} {r : List Int} : PlanR l n total ⟨js, c, sl, smn l js n⟩ c' r → PlanR l n total ⟨js, c, sl, t⟩ c' r := by
  have e1 : (⟨js, c, sl, smn l js n⟩ : Pst).tt l n = (⟨js, c, sl, t⟩ : Pst).tt l n := by simp only [Pst.tt]; omega
  have e2 : (⟨js, c, sl, smn l js n⟩ : Pst).step l n total = (⟨js, c, sl, t⟩ : Pst).step l n total := by simp only [Pst.step]; rw [e1]
  intro k
  cases k with
  | stop _ h' => exact .stop ⟨js, c, sl, t⟩ (e2 ▸ h')
  | go _ s' _ _ h' k2 => exact .go _ s' _ _ (e2 ▸ h') k2
end Go.Proofs.Ytbakaopgdcojfaa.Sim
