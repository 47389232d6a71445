/- The lines of a text, and the journal that it begins with: in plain Lean. Lemmas only; no condition. -/
import Derived.Test.YtikanmboimjhgaaDoorDrb
import Derived.Lib.IndexLaws
set_option linter.unusedSimpArgs false
set_option linter.unusedVariables false
set_option maxRecDepth 8000
namespace Go.Proofs.YtikanmboimjhgaaDoor.Sim
open Go Go.RowKit
theorem idx_eq {l : List UInt8} {c : UInt8} {o : Nat} (h1 : l[o]? = some c) (h2 : ∀ k : Nat, k < o → l[k]? ≠ some c) : Lib.indexByte l c = o := by
  have hg := Lib.indexByte_ge l c
  by_cases q : Lib.indexByte l c = -1
  · exact absurd h1 (Lib.indexByte_none q o)
  · obtain ⟨p, hp⟩ : ∃ p : Nat, Lib.indexByte l c = p := ⟨(Lib.indexByte l c).toNat, by omega⟩
    obtain ⟨a, b⟩ := Lib.indexByte_some hp
    rcases Nat.lt_trichotomy p o with w | w | w
    · exact absurd a (h2 p w)
    · rw [hp, w]
    · exact absurd h1 (b o w)
theorem idx_neg {l : List UInt8} {c : UInt8} (h : ∀ k : Nat, l[k]? ≠ some c) : Lib.indexByte l c = -1 := by
  have hg := Lib.indexByte_ge l c
  by_cases q : Lib.indexByte l c = -1
  · exact q
  · obtain ⟨p, hp⟩ : ∃ p : Nat, Lib.indexByte l c = p := ⟨(Lib.indexByte l c).toNat, by omega⟩
    exact absurd (Lib.indexByte_some hp).1 (h p)
theorem idx_lt (l : List UInt8) (c : UInt8) : Lib.indexByte l c < l.length := by
  have hg := Lib.indexByte_ge l c
  by_cases q : Lib.indexByte l c = -1
  · omega
  · obtain ⟨p, hp⟩ : ∃ p : Nat, Lib.indexByte l c = p := ⟨(Lib.indexByte l c).toNat, by omega⟩
    have := (List.getElem?_eq_some_iff.1 (Lib.indexByte_some hp).1).1
    omega
/-- Before, behind, and whether there is the mark. -/
def fnd (l : List UInt8) (c : UInt8) : Bool := decide (0 ≤ Lib.indexByte l c)
def wrd (l : List UInt8) (c : UInt8) : List UInt8 := if fnd l c then l.take (Lib.indexByte l c).toNat else l
def rst (l : List UInt8) (c : UInt8) : List UInt8 := if fnd l c then l.drop ((Lib.indexByte l c).toNat + 1) else []
theorem rst_le (l : List UInt8) (c : UInt8) : (rst l c).length ≤ l.length := by
  unfold rst
  split
  · rw [List.length_drop]; omega
  · simp
/-- The lines of a text, each ended by a newline. -/
def lns : Nat → List UInt8 → List (List UInt8)
  | 0, _ => []
  | n + 1, t => if Lib.indexByte t 10 < 0 then [] else t.take (Lib.indexByte t 10).toNat :: lns n (t.drop ((Lib.indexByte t 10).toNat + 1))
/-- A line of a journal, behind a check number. -/
def jok (n : Int) (s : List UInt8) : Bool := fnd s 32 && (wrd s 32 == dec (chk n (rst s 32)))
/-- The journal that lines begin with: its lines, and how long it is. -/
def recS : Int → List (List UInt8) → List (List UInt8) × Nat
  | _, [] => ([], 0)
  | n, s :: r => if jok n s then (rst s 32 :: (recS (chk n (rst s 32)) r).1, s.length + 1 + (recS (chk n (rst s 32)) r).2) else ([], 0)
theorem lns_none {n : Nat} {t : List UInt8} (h : Lib.indexByte t 10 < 0) : lns n t = [] := by
  cases n with
  | zero => rfl
  | succ n => simp only [lns]; rw [if_pos h]
theorem lns_some {n : Nat} {t : List UInt8} {k : Nat} (h : Lib.indexByte t 10 = k) : lns (n + 1) t = t.take k :: lns n (t.drop (k + 1)) := by
  simp only [lns]
  rw [if_neg (by omega), h]
  rfl
/-- A step in what is found. -/
def Jst (ls : List (List UInt8)) (A : List (List UInt8)) (m : Nat) (n : Int) (rest : List (List UInt8)) : Prop := recS 0 ls = (A ++ (recS n rest).1, m + (recS n rest).2)
theorem Jst.start (ls : List (List UInt8)) : Jst ls [] 0 0 ls := by simp [Jst]
theorem Jst.step {ls A rest : List (List UInt8)} {m : Nat} {n : Int} {s : List UInt8} (j : Jst ls A m n (s :: rest)) (h : jok n s = true) : Jst ls (A ++ [rst s 32]) (m + (s.length + 1)) (chk n (rst s 32)) rest := by
  unfold Jst at j ⊢
  rw [j, recS, if_pos h]
  simp only [List.append_assoc, List.singleton_append, Prod.mk.injEq, true_and]
  omega
theorem Jst.stop {ls A rest : List (List UInt8)} {m : Nat} {n : Int} {s : List UInt8} (j : Jst ls A m n (s :: rest)) (h : jok n s = false) : recS 0 ls = (A, m) := by
  unfold Jst at j
  rw [j, recS, if_neg (by simp [h])]
  simp
theorem Jst.nil {ls A : List (List UInt8)} {m : Nat} {n : Int} (j : Jst ls A m n []) : recS 0 ls = (A, m) := by
  unfold Jst at j
  rw [j, recS]
  simp
end Go.Proofs.YtikanmboimjhgaaDoor.Sim
