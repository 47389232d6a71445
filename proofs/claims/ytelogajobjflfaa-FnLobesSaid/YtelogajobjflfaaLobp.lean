/- Cuts of small numbers, in plain Lean: ways down and up, runs, and what is kept of a sorted list. Lemmas only; no condition. -/
import Derived.Test.YtelogajobjflfaaVs
set_option linter.unusedSimpArgs false
set_option linter.unusedVariables false
namespace Go.Proofs.Ytelogajobjflfaa.Sim
open Go Go.RowKit
/-- The way down from a place, as long as something holds. -/
def dn (p : Nat → Bool) : Nat → Nat
  | 0 => 0
  | k + 1 => if p k then dn p k else k + 1
theorem dn_le (p : Nat → Bool) : ∀ k, dn p k ≤ k
  | 0 => Nat.le_refl _
  | k + 1 => by
    unfold dn
    have := dn_le p k
    split <;> omega
theorem dn_all {p : Nat → Bool} : ∀ {k i : Nat}, dn p k ≤ i → i < k → p i = true
  | 0, i, _, h => by omega
  | k + 1, i, h1, h2 => by
    unfold dn at h1
    split at h1
    · rename_i hp
      by_cases e : i = k
      · subst e; exact hp
      · exact dn_all h1 (by omega)
    · omega
theorem dn_stop {p : Nat → Bool} : ∀ {k : Nat}, 0 < dn p k → p (dn p k - 1) = false
  | 0, h => by simp [dn] at h
  | k + 1, h => by
    unfold dn at h ⊢
    split at h
    · rename_i hp
      rw [if_pos hp]; exact dn_stop h
    · rename_i hp
      rw [if_neg hp]
      simpa using hp
theorem dn_yes {p : Nat → Bool} {k : Nat} (h : p k = true) : dn p (k + 1) = dn p k := by rw [dn, if_pos h]
theorem dn_no {p : Nat → Bool} {k : Nat} (h : p k = false) : dn p (k + 1) = k + 1 := by rw [dn, if_neg (by rw [h]; simp)]
/-- The way up from a place, so many steps at most. -/
def upw (p : Nat → Bool) : Nat → Nat → Nat
  | 0, k => k
  | f + 1, k => if p (k + 1) then upw p f (k + 1) else k
theorem le_upw (p : Nat → Bool) : ∀ f k, k ≤ upw p f k
  | 0, _ => Nat.le_refl _
  | f + 1, k => by
    unfold upw
    have := le_upw p f (k + 1)
    split <;> omega
theorem upw_le (p : Nat → Bool) : ∀ f k, upw p f k ≤ k + f
  | 0, _ => Nat.le_refl _
  | f + 1, k => by
    unfold upw
    have := upw_le p f (k + 1)
    split <;> omega
theorem upw_all {p : Nat → Bool} : ∀ {f k i : Nat}, k < i → i ≤ upw p f k → p i = true
  | 0, k, i, h1, h2 => by simp [upw] at h2; omega
  | f + 1, k, i, h1, h2 => by
    unfold upw at h2
    split at h2
    · rename_i hp
      by_cases e : i = k + 1
      · subst e; exact hp
      · exact upw_all (k := k + 1) (by omega) h2
    · omega
theorem upw_stop {p : Nat → Bool} : ∀ {f k : Nat}, upw p f k < k + f → p (upw p f k + 1) = false
  | 0, k, h => by simp [upw] at h
  | f + 1, k, h => by
    unfold upw at h ⊢
    split at h
    · rename_i hp
      rw [if_pos hp]
      exact upw_stop (by omega)
    · rename_i hp
      rw [if_neg hp]
      simpa using hp
theorem upw_yes {p : Nat → Bool} {f k : Nat} (h : p (k + 1) = true) : upw p (f + 1) k = upw p f (k + 1) := by rw [upw, if_pos h]
theorem upw_no {p : Nat → Bool} {f k : Nat} (h : p (k + 1) = false) : upw p (f + 1) k = k := by rw [upw, if_neg (by rw [h]; simp)]
/-- The end of a run: from a place on, so many steps at most. -/
def enR (c : Nat → Nat) (i : Nat) : Nat → Nat → Nat
  | 0, k => k
  | f + 1, k => if c k = c i then enR c i f (k + 1) else k
theorem le_enR (c : Nat → Nat) (i : Nat) : ∀ f k, k ≤ enR c i f k
  | 0, _ => Nat.le_refl _
  | f + 1, k => by
    unfold enR
    have := le_enR c i f (k + 1)
    split <;> omega
theorem enR_le (c : Nat → Nat) (i : Nat) : ∀ f k, enR c i f k ≤ k + f
  | 0, _ => Nat.le_refl _
  | f + 1, k => by
    unfold enR
    have := enR_le c i f (k + 1)
    split <;> omega
theorem enR_all {c : Nat → Nat} {i : Nat} : ∀ {f k j : Nat}, k ≤ j → j < enR c i f k → c j = c i
  | 0, k, j, h1, h2 => by simp [enR] at h2; omega
  | f + 1, k, j, h1, h2 => by
    unfold enR at h2
    split at h2
    · rename_i hp
      by_cases e : j = k
      · subst e; exact hp
      · exact enR_all (k := k + 1) (by omega) h2
    · omega
theorem enR_stop {c : Nat → Nat} {i : Nat} : ∀ {f k : Nat}, enR c i f k < k + f → c (enR c i f k) ≠ c i
  | 0, k, h => by simp [enR] at h
  | f + 1, k, h => by
    unfold enR at h ⊢
    split at h
    · rename_i hp
      rw [if_pos hp]
      exact enR_stop (by omega)
    · rename_i hp
      rw [if_neg hp]
      exact hp
theorem enR_yes {c : Nat → Nat} {i f k : Nat} (h : c k = c i) : enR c i (f + 1) k = enR c i f (k + 1) := by rw [enR, if_pos h]
theorem enR_no {c : Nat → Nat} {i f k : Nat} (h : c k ≠ c i) : enR c i (f + 1) k = k := by rw [enR, if_neg h]
/-- Whether a run from a place to an end is told. -/
def isR (c : Nat → Nat) (far : Nat → Nat → Bool) (n i e : Nat) : Bool := (decide (i = 0) || far (c (i - 1)) (c i)) && (decide (e = n) || far (c e) (c i))
/-- The first places of the runs that are told, from a place on. -/
def rnF (c : Nat → Nat) (far : Nat → Nat → Bool) (n : Nat) : Nat → Nat → List Nat
  | 0, _ => []
  | f + 1, i => if i < n then (if isR c far n i (enR c i (n - (i + 1)) (i + 1)) then i :: rnF c far n f (enR c i (n - (i + 1)) (i + 1)) else rnF c far n f (enR c i (n - (i + 1)) (i + 1))) else []
theorem rnF_lt {c : Nat → Nat} {far : Nat → Nat → Bool} {n : Nat} : ∀ {f i j : Nat}, j ∈ rnF c far n f i → j < n
  | 0, _, _, h => by simp [rnF] at h
  | f + 1, i, j, h => by
    unfold rnF at h
    split at h
    · rename_i hi
      split at h
      · rcases List.mem_cons.1 h with e | h
        · omega
        · exact rnF_lt h
      · exact rnF_lt h
    · simp at h
/-- Behind the end, no more steps are needed. -/
theorem rnF_more {c : Nat → Nat} {far : Nat → Nat → Bool} {n : Nat} : ∀ {f g i : Nat}, n ≤ i + f → f ≤ g → rnF c far n g i = rnF c far n f i
  | 0, 0, _, _, _ => rfl
  | 0, g + 1, i, h, _ => by
    show (if i < n then _ else []) = []
    exact if_neg (by omega)
  | f + 1, 0, i, h, h2 => by omega
  | f + 1, g + 1, i, h, h2 => by
    unfold rnF
    have := le_enR c i (n - (i + 1)) (i + 1)
    rw [rnF_more (f := f) (g := g) (by omega) (by omega)]
theorem rnF_end {c : Nat → Nat} {far : Nat → Nat → Bool} {n f i : Nat} (h : n ≤ i) : rnF c far n f i = [] := by
  cases f with
  | zero => rfl
  | succ f =>
    show (if i < n then _ else []) = []
    exact if_neg (by omega)
theorem rnF_step {c : Nat → Nat} {far : Nat → Nat → Bool} {n i : Nat} (h : i < n) : rnF c far n (n - i) i = (if isR c far n i (enR c i (n - (i + 1)) (i + 1)) then [i] else []) ++ rnF c far n (n - enR c i (n - (i + 1)) (i + 1)) (enR c i (n - (i + 1)) (i + 1)) := by
  obtain ⟨f, hf⟩ : ∃ f, n - i = f + 1 := ⟨n - i - 1, by omega⟩
  have h1 := le_enR c i (n - (i + 1)) (i + 1)
  have h2 := enR_le c i (n - (i + 1)) (i + 1)
  rw [hf, rnF, if_pos h, rnF_more (f := n - enR c i (n - (i + 1)) (i + 1)) (g := f) (by omega) (by omega)]
  split <;> rfl
/-- What is kept of a sorted list is the greatest of it. -/
theorem kept_top {α : Type} [DecidableEq α] {key : α → Nat} {l l' s : List α} {m : Nat} (hp : l'.Perm l) (hs : l'.Pairwise fun a b => key b ≤ key a) (hk : s.Perm (l'.take m)) {x y : α} (hx : x ∈ l) (hn : x ∉ s) (hy : y ∈ s) : key x ≤ key y := by
  have h1 : x ∈ l' := hp.mem_iff.2 hx
  rw [← List.take_append_drop m l'] at h1 hs
  rcases List.mem_append.1 h1 with q | q
  · exact absurd (hk.mem_iff.2 q) hn
  · rw [List.pairwise_append] at hs
    exact hs.2.2 y (hk.mem_iff.1 hy) x q
end Go.Proofs.Ytelogajobjflfaa.Sim
