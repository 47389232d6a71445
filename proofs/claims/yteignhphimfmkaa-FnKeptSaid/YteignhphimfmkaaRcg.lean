
/- The law FnExactFrameAt on the abstract machine. Lemmas only; no condition. -/
import Derived.Test.YteignhphimfmkaaRcf
set_option linter.unusedSimpArgs false
set_option linter.unusedVariables false
set_option maxRecDepth 8000
namespace Go.Proofs.Yteignhphimfmkaa.Sim
open Go Go.RowKit
variable {ro : Nat} {X : Ext}
def frIdx (l : List UInt8) (k : Int) : Int := if frOk l k then wd l (frPos l k) else 0
def frZs (l : List UInt8) (k : Int) : List (Nat × Nat) := if frOk l k then atZ l (frPos l k) (elN l) else []
theorem frOk_n {l : List UInt8} {k : Int} (h : frOk l k = true) : elN l ≤ 16 := by
  simp only [frOk, Bool.and_eq_true] at h
  exact (hdrOk_n h.1.1).2.2.1
theorem FrR.out {l : List UInt8} {k : Int} {h h' : Heap} {r : Value} (p : FrR l k h h' r) : Pfx h h' ∧ ∃ y, r = .tuple ⟨[.agg ⟨[.int .i64 (frIdx l k), y]⟩, .bool (frOk l k)]⟩ ∧ VS h.length h'.length 1 h' y (frZs l k).length ((frZs l k).map cpx) ∧ (frZs l k).length ≤ 16 := by
  obtain ⟨p1, ⟨p2, rfl⟩ | ⟨p2, y, rfl, p3⟩⟩ := p
  · refine ⟨p1, .slice none 0 0, ?_, ?_, ?_⟩
    · simp [frIdx, p2]
    · simp only [frZs, p2]; exact ⟨by simp, .inl ⟨rfl, rfl⟩⟩
    · simp [frZs, p2]
  · refine ⟨p1, y, ?_, ?_, ?_⟩
    · simp [frIdx, p2]
    · simp only [frZs, p2, if_true]; rw [atZ_len]; exact p3.vsl
    · simp only [frZs, p2, if_true]; rw [atZ_len]; exact frOk_n p2
theorem put_last2 {h : Heap} {t : TypeId} {u v a c : Value} (hro : ro ≤ h.length) (h1 : one a = true) (h2 : one c = true) : put ro (h ++ [(⟨t, [u, v]⟩ : Blk)]) h.length 0 2 (.agg ⟨[a, c]⟩) = some (h ++ [⟨t, [a, c]⟩]) := by
  rw [put2 (get_last rfl) hro h1 h2]
  simp
end Go.Proofs.Yteignhphimfmkaa.Sim
