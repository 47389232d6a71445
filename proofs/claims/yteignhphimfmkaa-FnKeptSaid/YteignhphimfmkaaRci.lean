
/- Rows of frames: what the functions that compare, mark and hold them come to. Lemmas only; no condition. -/
import Derived.Test.YteignhphimfmkaaRch
set_option linter.unusedSimpArgs false
set_option linter.unusedVariables false
set_option maxRecDepth 8000
namespace Go.Proofs.Yteignhphimfmkaa.Sim
open Go Go.RowKit
variable {ro : Nat} {X : Ext}
theorem VS.ld2 {P : Program} {lo hi n : Nat} {h : Heap} {x : Value} {L : List Value} {t : TypeId} (s : VS lo hi 2 h x n L) (hs : szT P t = some 2) (ha : aggT P t = true) {i : Nat} (hi : i < n) : ld P h t (ea x (i * 2)) = some (.agg ⟨[vth L (i * 2), vth L (i * 2 + 1)]⟩) := by
  rw [s.ldm hs ha (by omega) (by omega), vals_2]
/-- The mark of a frame's index, and of its numbers, up to a frame. -/
def mkI (c : Int) (n i : Nat) (ix : Nat → Int) (j : Nat) : Int := if j < i then c + (j * (n + 1) : Nat) else ix j
def mkZ (c : Int) (n i : Nat) (zs : Nat → List Value) (j : Nat) : List Value := if j < i then mkc (c + (j * (n + 1) : Nat) + 1) n (zs j) else zs j
theorem mkI_zero (c : Int) (n : Nat) (ix : Nat → Int) : mkI c n 0 ix = ix := funext fun j => by simp [mkI]
theorem mkZ_zero (c : Int) (n : Nat) (zs : Nat → List Value) : mkZ c n 0 zs = zs := funext fun j => by simp [mkZ]
/-- One more frame is marked. -/
theorem NF.mark {lo hi bx n m i : Nat} {h h' : Heap} {L : List Value} {ix : Nat → Int} {zs : Nat → List Value} {c : Int} (g : NF lo hi h bx n m L (mkI c n i ix) (mkZ c n i zs)) (hi' : i < m)
    (hy : VS (bOf (vth L (i * 2 + 1))) (bOf (vth L (i * 2 + 1)) + 1) 1 h' (vth L (i * 2 + 1)) n (mkc (c + (i * (n + 1) : Nat) + 1) n (zs i))) (hh : ∀ b, b ≠ bx → b ≠ bOf (vth L (i * 2 + 1)) → h'[b]? = h[b]?) :
    NF lo hi h' bx n m (L.set (i * 2) (.int .i64 (c + (i * (n + 1) : Nat)))) (mkI c n (i + 1) ix) (mkZ c n (i + 1) zs) := by
  have hl := g.len
  have e1 : ∀ j, vth (L.set (i * 2) (.int .i64 (c + (i * (n + 1) : Nat)))) (j * 2 + 1) = vth L (j * 2 + 1) := fun j => by
    rw [vth_set (by omega), if_neg (by omega)]
  refine ⟨by rw [List.length_set]; exact hl, fun j hj => ?_, fun j hj => ?_, fun j hj => ?_, fun j hj => ?_, fun a j haj ha hj => ?_⟩
  · rw [vth_set (by omega)]
    by_cases q : j = i
    · subst q; rw [if_pos rfl, mkI, if_pos (by omega)]
    · rw [if_neg (by omega), g.idx j hj]
      unfold mkI
      by_cases w : j < i
      · rw [if_pos w, if_pos (by omega)]
      · rw [if_neg w, if_neg (by omega)]
  · rw [e1]
    by_cases q : j = i
    · subst q
      rw [mkZ, if_pos (by omega)]; exact hy
    · have hz : mkZ c n (i + 1) zs j = mkZ c n i zs j := by
        unfold mkZ
        by_cases w : j < i
        · rw [if_pos w, if_pos (by omega)]
        · rw [if_neg w, if_neg (by omega)]
      rw [hz]
      refine (g.row j hj).frame fun b h1 h2 => ?_
      obtain rfl : b = bOf (vth L (j * 2 + 1)) := by omega
      exact hh _ (g.out j hj) (g.sep j i q hj hi')
  · rw [e1]; exact g.rng j hj
  · rw [e1]; exact g.out j hj
  · rw [e1, e1]; exact g.sep a j haj ha hj
theorem mul_le64 {i m n : Nat} (hi : i ≤ m) (hm : m ≤ 64) (hn : n ≤ 16) : i * (n + 1) ≤ 1088 := by
  have : i * (n + 1) ≤ 64 * 17 := Nat.mul_le_mul (by omega) (by omega)
  omega
theorem mul_succ1 (i n : Nat) : (i + 1) * (n + 1) = i * (n + 1) + 1 + n := by
  rw [Nat.add_mul]; omega
end Go.Proofs.Yteignhphimfmkaa.Sim
