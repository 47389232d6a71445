/- The functions of the library and the draws that laws lean on, as one. Lemmas only; no condition. -/
import Derived.Test.YtjonhaebeeoimaaMth
import Derived.Test.YtjonhaebeeoimaaDrr
set_option linter.unusedSimpArgs false
set_option linter.unusedVariables false
set_option maxRecDepth 8000
namespace Go.Proofs.Ytjonhaebeeoimaa.Sim
open Go Go.RowKit
variable {ro : Nat} {X : Ext}
theorem XN.orS {A B : Ext} (a : XN A) (b : XN B) : XN (orX A B) := fun f hf => by unfold orX; rw [a f hf]; exact b f hf
theorem XN.onlyS {n : Nat} {F : Option (List Value → Heap → Option (Value × Heap))} (hn : noBody.contains n = true) : XN fun g => if g = n then F else none := fun f hf => by
  show (if f = n then F else none) = none
  rw [if_neg]
  intro e
  rw [e, hn] at hf
  cases hf
noncomputable def xS0 : Ext := orX (soloX 71 gBits) (orX (soloX 70 gFrom) (orX (soloX 55 fBits) (soloX 56 (gInt .down))))
noncomputable def xS1 (ro : Nat) : Ext := orX (xPl ro xS0) xS0
theorem xn_S0 : XN xS0 := XN.orS (XN.onlyS (by decide +kernel)) (XN.orS (XN.onlyS (by decide +kernel)) (XN.orS (XN.onlyS (by decide +kernel)) (XN.onlyS (by decide +kernel))))
theorem xn_S1 (ro : Nat) : XN (xS1 ro) := XN.orS (XN.onlyS (by decide +kernel)) xn_S0
theorem xok_S0 {ro : Nat} {B : Base} : XOk Try.prog ro B xS0 := orX_ok xBits_ok (orX_ok xFrom_ok (orX_ok xBits32_ok xFloor_ok))
theorem xok_S1 {ro : Nat} {B : Base} : XOk Try.prog ro B (xS1 ro) := orX_ok (xPl_ok xok_S0) xok_S0
theorem XDW.of (hX : XN X) : XDW X := ⟨hX _ rfl, hX _ rfl, hX _ rfl, hX _ rfl⟩
end Go.Proofs.Ytjonhaebeeoimaa.Sim
