/- The reference's way to a journal. Lemmas only; no condition. -/
import Derived.Test.YtikanmboimjhgaaDoorDrd
set_option linter.unusedSimpArgs false
set_option linter.unusedVariables false
set_option maxRecDepth 8000
namespace Go.Proofs.YtikanmboimjhgaaDoor.Sim
open Go Go.RowKit
variable {ro : Nat} {X : Ext}
theorem vg_shi {P : Program} {T e lo n q : Nat} {kk : IntKind} {h : Heap} {x : Value} {L : List Value} (hu : P.underlying T = some (.slice e)) (hs : szT P e = some 1) (g : VG lo e 1 h x n L) (hq : q ≤ n) : ∃ y, slc P ro h T x none (some (.int kk q)) none = some y ∧ VS lo h.length 1 h y q (L.take q) ∧ ∃ b o c, y = .slice (some ⟨b, o, none⟩) q c := by
  obtain ⟨hl, b, cap, rfl, hb, hg, hc⟩ := g
  refine ⟨.slice (some ⟨b, 0, none⟩) q (if q = n ∧ cap = n then q else q + 1), ?_, ⟨by rw [List.length_take]; omega, .inr ⟨b, 0, _, _, rfl, hb, lt_of_some hg, hg, by simp only; omega, fun j hj => ?_⟩⟩, _, _, _, rfl⟩
  · have e : ((q : Int) = (n : Int)) = (q = n) := propext ⟨fun h => by omega, fun h => by omega⟩
    simp only [slc, hu, bnd, hs, Option.bind_some, hg, Option.map_some]
    rw [if_pos ⟨Int.le_refl _, by omega, by omega, Int.le_refl _, fun _ => by simp, fun q => by simp at q⟩]
    simp [e]
  · rw [Nat.zero_add]
    have : j < q := by omega
    have hjl : j < L.length := by omega
    show L[j]? = _
    rw [vth_get hjl]
    simp [vth, List.getD_eq_getElem?_getD, List.getElem?_take, this]
theorem lns_le : ∀ (n : Nat) (t : List UInt8), (lns n t).length ≤ t.length
  | 0, t => by simp [lns]
  | n + 1, t => by
    simp only [lns]
    split
    · simp
    · have := lns_le n (t.drop ((Lib.indexByte t 10).toNat + 1))
      have hi := idx_lt t 10
      rw [List.length_drop] at this
      rw [List.length_cons]
      omega
theorem lns_mem : ∀ (n : Nat) (t : List UInt8), ∀ s ∈ lns n t, s.length ≤ t.length
  | 0, t => by simp [lns]
  | n + 1, t => by
    simp only [lns]
    split
    · simp
    · intro s hs
      rcases List.mem_cons.1 hs with rfl | hs
      · rw [List.length_take]; omega
      · have := lns_mem n _ s hs
        rw [List.length_drop] at this
        omega
theorem recS_le : ∀ (n : Int) (ls : List (List UInt8)), (recS n ls).1.length ≤ ls.length
  | n, [] => by simp [recS]
  | n, s :: r => by
    simp only [recS]
    split
    · have := recS_le (chk n (rst s 32)) r
      simp only [List.length_cons]
      omega
    · simp
theorem Jst.bound {ls A rest : List (List UInt8)} {m : Nat} {n : Int} (h : A.length + rest.length ≤ ls.length) (hm : m ≤ 1099511627776) : A.length ≤ ls.length := by omega
end Go.Proofs.YtikanmboimjhgaaDoor.Sim
