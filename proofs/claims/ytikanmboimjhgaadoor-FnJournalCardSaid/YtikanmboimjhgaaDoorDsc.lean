/- Journals of lines: the reference's and the program's. Lemmas only; no condition. -/
import Derived.Test.YtikanmboimjhgaaDoorDsb
set_option linter.unusedSimpArgs false
set_option linter.unusedVariables false
set_option maxRecDepth 8000
namespace Go.Proofs.YtikanmboimjhgaaDoor.Sim
open Go Go.RowKit
variable {ro : Nat} {X : Ext}
/-- A line of a journal. -/
def jl (n : Int) (s : List UInt8) : List UInt8 := dec (chk n s) ++ [32] ++ s ++ [10]
/-- A journal. -/
def jr : Int → List (List UInt8) → List UInt8
  | _, [] => []
  | n, s :: r => jl n s ++ jr (chk n s) r
theorem jl_len (n : Int) (s : List UInt8) : (jl n s).length = (dec (chk n s)).length + s.length + 2 := by
  simp [jl]
  omega
theorem jr_ge : ∀ (n : Int) (l : List (List UInt8)), wei l + 3 * l.length ≤ (jr n l).length
  | n, [] => by simp [wei]
  | n, s :: r => by
    have := jr_ge (chk n s) r
    have h1 := dec_pos (chk n s)
    simp only [wei, jr, List.length_cons, List.length_append, jl_len]
    omega
theorem jr_le : ∀ (n : Int) (l : List (List UInt8)), 0 ≤ n ∧ n ≤ 65002 → (jr n l).length ≤ wei l + 7 * l.length
  | n, [], _ => by simp [jr, wei]
  | n, s :: r, hn => by
    have hc := chk_range hn s
    have := jr_le (chk n s) r hc
    have h1 := dec_le hc.2
    simp only [wei, jr, List.length_cons, List.length_append, jl_len]
    omega
/-- Whether lines have a journal; what is handed back. -/
def jgood (l : List (List UInt8)) : Bool := l.all (fun s => !fnd s 10) && decide ((jr 0 l).length ≤ 6000)
def jout (l : List (List UInt8)) : List UInt8 := if jgood l then jr 0 l else []
theorem sth_memD {l : List (List UInt8)} {i : Nat} (h : i < l.length) : sth l i ∈ l := by
  simp [sth, List.getD_eq_getElem?_getD, List.getElem?_eq_getElem h]
theorem jgood_nl {l : List (List UInt8)} {i : Nat} (hi : i < l.length) (h : fnd (sth l i) 10 = true) : jgood l = false := by
  unfold jgood
  rw [Bool.and_eq_false_iff]
  left
  rw [List.all_eq_false]
  exact ⟨_, sth_memD hi, by simp [h]⟩
theorem jgood_long {l : List (List UInt8)} (h : 6000 < (jr 0 l).length) : jgood l = false := by
  unfold jgood
  rw [decide_eq_false (by omega), Bool.and_false]
theorem jgood_yes {l : List (List UInt8)} (h1 : ∀ i, i < l.length → fnd (sth l i) 10 = false) (h2 : (jr 0 l).length ≤ 6000) : jgood l = true := by
  unfold jgood
  rw [decide_eq_true h2, Bool.and_true, List.all_eq_true]
  intro s hs
  obtain ⟨i, hi, rfl⟩ := List.getElem_of_mem hs
  have := h1 i hi
  simp [sth, List.getD_eq_getElem?_getD, List.getElem?_eq_getElem hi] at this
  simp [this]
theorem jout_no {l : List (List UInt8)} (h : jgood l = false) : jout l = [] := by unfold jout; rw [h]; rfl
theorem jout_yes {l : List (List UInt8)} (h : jgood l = true) : jout l = jr 0 l := by unfold jout; rw [if_pos h]
theorem drop_sth' {l : List (List UInt8)} {i : Nat} (h : i < l.length) : l.drop i = sth l i :: l.drop (i + 1) := by
  rw [List.drop_eq_getElem_cons h]
  simp [sth, List.getD_eq_getElem?_getD, List.getElem?_eq_getElem h]
/-- What stands when the first lines are done. -/
def Jrn (l : List (List UInt8)) (i : Nat) (n : Int) (out : List UInt8) : Prop := (0 ≤ n ∧ n ≤ 65002) ∧ jr 0 l = out ++ jr n (l.drop i)
theorem Jrn.start (l : List (List UInt8)) : Jrn l 0 0 [] := ⟨⟨by omega, by omega⟩, by simp⟩
theorem Jrn.step {l : List (List UInt8)} {i : Nat} {n : Int} {out : List UInt8} (j : Jrn l i n out) (hi : i < l.length) : Jrn l (i + 1) (chk n (sth l i)) (out ++ jl n (sth l i)) := by
  obtain ⟨h1, h2⟩ := j
  refine ⟨chk_range h1 _, ?_⟩
  rw [h2, drop_sth' hi, jr, List.append_assoc]
theorem Jrn.le {l : List (List UInt8)} {i : Nat} {n : Int} {out : List UInt8} (j : Jrn l i n out) : out.length ≤ (jr 0 l).length := by
  rw [j.2, List.length_append]; omega
theorem Jrn.end {l : List (List UInt8)} {n : Int} {out : List UInt8} (j : Jrn l l.length n out) : out = jr 0 l := by
  rw [j.2, List.drop_length]; simp [jr]
theorem wei_drop {l : List (List UInt8)} {i : Nat} (h : i < l.length) : wei (l.drop i) = (sth l i).length + wei (l.drop (i + 1)) := by
  rw [drop_sth' h, wei]
end Go.Proofs.YtikanmboimjhgaaDoor.Sim
