/- The functions of the library and the draws that laws lean on, as one. Lemmas only; no condition. -/
import Derived.Test.YtelogajobjflfaaMth
import Derived.Test.YtelogajobjflfaaDrr
set_option linter.unusedSimpArgs false
set_option linter.unusedVariables false
set_option maxRecDepth 8000
namespace Go.Proofs.Ytelogajobjflfaa.Sim
open Go Go.RowKit
variable {ro : Nat} {X : Ext}
theorem XN.orS {A B : Ext} (a : XN A) (b : XN B) : XN (orX A B) := fun f hf => by unfold orX; rw [a f hf]; exact b f hf
theorem XN.onlyS {n : Nat} {F : Option (List Value → Heap → Option (Value × Heap))} (hn : noBody.contains n = true) : XN fun g => if g = n then F else none := fun f hf => by
  show (if f = n then F else none) = none
  rw [if_neg]
  intro e
  rw [e, hn] at hf
  cases hf
noncomputable def xS0 : Ext := orX (soloX 239 gBits) (orX (soloX 238 gFrom) extB)
noncomputable def xS1 (ro : Nat) : Ext := orX (xPl ro xS0) xS0
theorem xn_S0 : XN xS0 := XN.orS (XN.onlyS (by decide +kernel)) (XN.orS (XN.onlyS (by decide +kernel)) extB_n)
theorem xn_S1 (ro : Nat) : XN (xS1 ro) := XN.orS (XN.onlyS (by decide +kernel)) xn_S0
theorem xok_S0 {ro : Nat} {B : Base} : XOk Try.prog ro B xS0 := orX_ok xBits_ok (orX_ok xFrom_ok extB_ok)
theorem xok_S1 {ro : Nat} {B : Base} : XOk Try.prog ro B (xS1 ro) := orX_ok (xPl_ok xok_S0) xok_S0
theorem XDW.of (hX : XN X) (hF : X 259 = some (ext1 fFrom)) : XDW X := ⟨hX _ rfl, hX _ rfl, hX _ rfl, hX _ rfl, hX _ rfl, hX _ rfl, hX _ rfl, hX _ rfl, hX _ rfl, hX _ rfl, hF⟩
end Go.Proofs.Ytelogajobjflfaa.Sim
