/- The reference's RecoverJournal. Lemmas only; no condition. -/
import Derived.Test.YtikanmboimjhgaaDoorDre
set_option linter.unusedSimpArgs false
set_option linter.unusedVariables false
set_option maxRecDepth 8000
namespace Go.Proofs.YtikanmboimjhgaaDoor.Sim
open Go Go.RowKit
variable {ro : Nat} {X : Ext}
/-- What is found in a text. -/
def jrn (t : List UInt8) : List (List UInt8) × Nat := if t.length ≤ 6000 then recS 0 (lns (t.length + 1) t) else ([], 0)
def RJ (t : List UInt8) (h h' : Heap) (r : Value) : Prop :=
  Pfx h h' ∧ ∃ y, r = .tuple ⟨[y, .int .i64 (jrn t).2, .bool (decide (t.length ≤ 6000))]⟩ ∧ VS h.length h'.length 1 h' y (jrn t).1.length ((jrn t).1.map strv)
theorem sth_mem {l : List (List UInt8)} {i : Nat} (h : i < l.length) : sth l i ∈ l := by
  simp [sth, List.getD_eq_getElem?_getD, List.getElem?_eq_getElem h]
theorem drop_sth {l : List (List UInt8)} {i : Nat} (h : i < l.length) : l.drop i = sth l i :: l.drop (i + 1) := by
  rw [List.drop_eq_getElem_cons h]
  simp [sth, List.getD_eq_getElem?_getD, List.getElem?_eq_getElem h]
theorem bth_get {s : List UInt8} {k : Nat} (hk : k < s.length) (h : bth s k = 32) : s[k]? = some 32 := by
  rw [List.getElem?_eq_getElem hk]
  simp only [bth, List.getD_eq_getElem?_getD, List.getElem?_eq_getElem hk, Option.getD_some] at h
  congr 1
  exact UInt8.toNat_inj.1 (by have e : (32 : UInt8).toNat = 32 := rfl; omega)
theorem fnd_at {s : List UInt8} {k : Nat} (hk : k < s.length) (h : bth s k = 32) (hb : ∀ j : Nat, j < k → s[j]? ≠ some 32) : fnd s 32 = true ∧ wrd s 32 = s.take k ∧ rst s 32 = s.drop (k + 1) := by
  have e := idx_eq (bth_get hk h) hb
  have e1 : fnd s 32 = true := by unfold fnd; rw [e]; exact decide_eq_true (by omega)
  refine ⟨e1, ?_, ?_⟩
  · rw [wrd, if_pos e1, e]; rfl
  · rw [rst, if_pos e1, e]; rfl
theorem fnd_not {s : List UInt8} (hb : ∀ j : Nat, j < s.length → s[j]? ≠ some 32) : fnd s 32 = false := by
  unfold fnd
  rw [idx_neg fun k q => hb k (List.getElem?_eq_some_iff.1 q).1 q]
  rfl
/-- How far the reckoning goes. -/
theorem recS_len : ∀ (n : Int) (ls : List (List UInt8)), (recS n ls).2 ≤ wei ls + ls.length
  | n, [] => by simp [recS]
  | n, s :: r => by
    simp only [recS]
    split
    · have := recS_len (chk n (rst s 32)) r
      simp only [wei, List.length_cons]
      omega
    · simp
theorem wei_lns : ∀ (n : Nat) (t : List UInt8), wei (lns n t) + (lns n t).length ≤ t.length
  | 0, t => by simp [lns, wei]
  | n + 1, t => by
    simp only [lns]
    split
    · simp [wei]
    · have := wei_lns n (t.drop ((Lib.indexByte t 10).toNat + 1))
      have hi := idx_lt t 10
      rw [List.length_drop] at this
      simp only [wei, List.length_cons, List.length_take]
      omega
end Go.Proofs.YtikanmboimjhgaaDoor.Sim
