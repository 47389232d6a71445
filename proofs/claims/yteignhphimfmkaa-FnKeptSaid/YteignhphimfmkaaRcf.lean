
/- The law of FrameAt. Lemmas only; no condition. -/
import Derived.Test.YteignhphimfmkaaRce
set_option linter.unusedSimpArgs false
set_option linter.unusedVariables false
set_option maxRecDepth 8000
namespace Go.Proofs.Yteignhphimfmkaa.Sim
open Go Go.RowKit
variable {ro : Nat} {X : Ext}
theorem box_ix {idx : Int} {x : Value} (h1 : one x = true) (g : Heap) (t : TypeId) : boxV g t (.agg ⟨[.int .i64 idx, x]⟩) = some (.pointer (some ⟨g.length, 0, none⟩), g ++ [⟨t, [.int .i64 idx, x]⟩]) := by
  rw [box_go (by simp only [cellsOf, List.all_cons, List.all_nil, h1, Bool.and_true]; rfl)]; rfl
/-- Only blocks of a range have changed, of those that were there. -/
def RngL (lo hi : Nat) (h h' : Heap) : Prop := h.length ≤ h'.length ∧ ∀ b, b < h.length → (b < lo ∨ hi ≤ b) → h'[b]? = h[b]?
theorem endH_or (v : Value) (h h' : Heap) : endH v h h' = h' ∨ (endH v h h' = h ∧ ∀ b, b < h.length → h'[b]? = h[b]?) := by
  unfold endH
  split
  · rename_i q
    refine .inr ⟨rfl, fun b hb => ?_⟩
    have := congrArg (fun g => g[b]?) q.2
    simp only [List.getElem?_take_of_lt hb] at this
    exact this
  · exact .inl rfl
end Go.Proofs.Yteignhphimfmkaa.Sim
