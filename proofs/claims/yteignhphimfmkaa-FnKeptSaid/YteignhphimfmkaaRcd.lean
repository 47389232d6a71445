
/- Slices of complex numbers: what the functions that compare, mark and hold them come to. Lemmas only; no condition. -/
import Derived.Test.YteignhphimfmkaaRcc
import Derived.Test.YteignhphimfmkaaWide
set_option linter.unusedSimpArgs false
set_option linter.unusedVariables false
set_option maxRecDepth 8000
namespace Go.Proofs.Yteignhphimfmkaa.Sim
open Go Go.RowKit
variable {ro : Nat} {X : Ext}
def cpm (c : Int) : Value := .complex .f32 (mkb c) 1065353216
/-- Marked up to a place. -/
def mkc (c : Int) (m : Nat) (L : List Value) : List Value := ((List.range m).map fun i : Nat => cpm (c + (i : Int))) ++ L.drop m
theorem mkc_zero (c : Int) (L : List Value) : mkc c 0 L = L := by simp [mkc]
theorem mkc_len {c : Int} {m : Nat} {L : List Value} (h : m ≤ L.length) : (mkc c m L).length = L.length := by
  simp only [mkc, List.length_append, List.length_map, List.length_range, List.length_drop]; omega
theorem mkc_vth {c : Int} {m i : Nat} {L : List Value} (h : i < m) : vth (mkc c m L) i = cpm (c + (i : Int)) := by
  simp only [vth, mkc, List.getD_eq_getElem?_getD]
  rw [List.getElem?_append_left (by simpa using h)]
  simp [h]
theorem mkc_set {c : Int} {m : Nat} {L : List Value} (h : m < L.length) : (mkc c m L).set m (cpm (c + (m : Int))) = mkc c (m + 1) L := by
  refine List.ext_getElem? fun j => ?_
  rw [List.getElem?_set]
  have hl1 : ((List.range m).map fun i : Nat => cpm (c + (i : Int))).length = m := by simp
  have hl2 : ((List.range (m + 1)).map fun i : Nat => cpm (c + (i : Int))).length = m + 1 := by simp
  by_cases e : m = j
  · subst e
    rw [if_pos rfl, if_pos (by rw [mkc_len (by omega)]; exact h)]
    unfold mkc
    rw [List.getElem?_append_left (by rw [hl2]; omega)]
    simp
  · rw [if_neg e]
    unfold mkc
    by_cases q : j < m
    · rw [List.getElem?_append_left (by rw [hl1]; exact q), List.getElem?_append_left (by rw [hl2]; omega)]
      simp [q, Nat.lt_succ_of_lt q]
    · rw [List.getElem?_append_right (by rw [hl1]; omega), List.getElem?_append_right (by rw [hl2]; omega), hl1, hl2, List.getElem?_drop, List.getElem?_drop]
      congr 1
      omega
end Go.Proofs.Yteignhphimfmkaa.Sim
