/- From the abstract machine to a row: a law that answers 'true' there answers so in the model and leaves what was there. Lemmas only; no condition. -/
import Derived.Test.YteignhphimfmkaaSimQ
namespace Go.Proofs.Yteignhphimfmkaa.Sim
open Go Go.RowKit
variable {P : Program} {ro : Nat} {X : Ext}
def noX : Ext := fun _ => none
theorem noX_ok {B : Base} : XOk P ro B noX := fun f F h => by cases h
theorem SR_nil {w : World} : SR P ro (baseOf w) [] [] w := ⟨rfl, fun b L Bk h => by simp at h, fun b L Bk h => by simp at h, fun b b' L L' Bk Bk' _ _ h => by simp at h, fun _ _ => rfl⟩
theorem law_calls (hm : P.follows .mixedOrders = true) {f : FuncId} {fn : Func} {args : List Value} {h h' : Heap} {w : World} (hX : XOk P ro (baseOf w) X) (hf : P.funcs[f]? = some fn) (hb : fn.body.isSome = true) (hn : (fn.name != "runtime.NumGoroutine") = true)
    (hc : Call P ro X f args h (.bool true) h') {ρ : List Loc} {args' : List Value} (hs : SR P ro (baseOf w) ρ h w) (hargs : VRs P ro ρ args args') :
    Calls P f ⟨args'⟩ w fun e w' => e = .returned (.bool true) ∧ Below w.heap.size w w' := by
  refine (calls_of_Call hm hX hf hb (by simpa using hn) hc hs (Nat.le_refl _) hargs).mono fun e w' => ?_
  rintro ⟨v, rfl, ρ', _, _, hv, hb⟩
  cases hv
  exact ⟨rfl, hb⟩
end Go.Proofs.Yteignhphimfmkaa.Sim
