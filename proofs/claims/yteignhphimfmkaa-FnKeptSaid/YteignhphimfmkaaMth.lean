/- Functions of the library that have no body: bits of wide floats, roots, whole parts. Lemmas only; no condition. -/
import Derived.Test.YteignhphimfmkaaMath
import Derived.Test.YteignhphimfmkaaFle
set_option linter.unusedSimpArgs false
set_option linter.unusedVariables false
namespace Go.Proofs.Yteignhphimfmkaa.Sim
open Go Go.RowKit
variable {ro : Nat} {X : Ext}
theorem cf_back {k : FloatKind} {b b' : Nat} (h : cf k b' = b) (hn : (k.decode b).isNaN = false) : b' = b := by
  unfold cf at h
  split at h
  · rw [← h] at hn
    exact absurd hn (by cases k <;> decide +kernel)
  · exact h
def gBits : Value → Option Value
  | .float .f64 b => if (FloatKind.f64.decode b).isNaN then none else some (.int .u64 b)
  | _ => none
def gFrom : Value → Option Value
  | .int .u64 n => some (.float .f64 (cf .f64 n.toNat))
  | _ => none
def gSqrt : Value → Option Value
  | .float .f64 b => if (FloatKind.f64.decode b).isNaN then none else (FloatKind.f64.format.sqrt b).map fun r => .float .f64 (cf .f64 r)
  | _ => none
def gInt (way : Ieee.Toward) : Value → Option Value
  | .float .f64 b => if (FloatKind.f64.decode b).isNaN then none else some (.float .f64 (cf .f64 (FloatKind.f64.encode ((FloatKind.f64.decode b).integral way))))
  | _ => none
theorem gBits_ok {P : Program} {ro : Nat} (ρ : List Loc) (x y r : Value) (hx : gBits x = some r) (hv : VR P ro ρ x y) : ∃ r', (∀ w, (Extern.MathFloatBits.float64bits #[y]).run P w = .ok r' w) ∧ VR P ro ρ r r' := by
  cases hv <;> simp only [gBits] at hx <;> first | (cases hx; done) | skip
  rename_i k b b' hb
  cases k <;> simp only at hx <;> first | (cases hx; done) | skip
  split at hx
  · cases hx
  · rename_i hnan
    cases hx
    obtain rfl := cf_back hb (by simpa using hnan)
    exact ⟨.int .u64 b', fun w => rfl, .int _ _⟩
theorem gFrom_ok {P : Program} {ro : Nat} (ρ : List Loc) (x y r : Value) (hx : gFrom x = some r) (hv : VR P ro ρ x y) : ∃ r', (∀ w, (Extern.MathFloatBits.float64frombits #[y]).run P w = .ok r' w) ∧ VR P ro ρ r r' := by
  cases hv <;> simp only [gFrom] at hx <;> first | (cases hx; done) | skip
  rename_i k n
  cases k <;> simp only at hx <;> first | (cases hx; done) | skip
  cases hx
  exact ⟨.float .f64 n.toNat, fun w => rfl, .flt _ _ _ rfl⟩
theorem gSqrt_ok {P : Program} {ro : Nat} (ρ : List Loc) (x y r : Value) (hx : gSqrt x = some r) (hv : VR P ro ρ x y) : ∃ r', (∀ w, (Extern.MathSqrt.sqrt #[y]).run P w = .ok r' w) ∧ VR P ro ρ r r' := by
  cases hv <;> simp only [gSqrt] at hx <;> first | (cases hx; done) | skip
  rename_i k b b' hb
  cases k <;> simp only at hx <;> first | (cases hx; done) | skip
  split at hx
  · cases hx
  · rename_i hnan
    obtain rfl := cf_back hb (by simpa using hnan)
    simp only [Option.map_eq_some_iff] at hx
    obtain ⟨q, hq, rfl⟩ := hx
    exact ⟨.float .f64 q, fun w => by
      change Sem.run P (match FloatKind.f64.format.sqrt b' with | some r => (pure (Value.float .f64 r) : Sem Value) | none => do pure (Value.float .f64 (← choose (.nanBits .f64 b' b')))) w = _
      rw [hq]
      rfl, .flt _ _ _ rfl⟩
theorem gInt_ok {P : Program} {ro : Nat} (name : String) (way : Ieee.Toward) (ρ : List Loc) (x y r : Value) (hx : gInt way x = some r) (hv : VR P ro ρ x y) : ∃ r', (∀ w, (Extern.MathFloor.toIntegral name way #[y]).run P w = .ok r' w) ∧ VR P ro ρ r r' := by
  cases hv <;> simp only [gInt] at hx <;> first | (cases hx; done) | skip
  rename_i k b b' hb
  cases k <;> simp only at hx <;> first | (cases hx; done) | skip
  split at hx
  · cases hx
  · rename_i hnan
    obtain rfl := cf_back hb (by simpa using hnan)
    cases hx
    refine ⟨.float .f64 (FloatKind.f64.encode ((FloatKind.f64.decode b').integral way)), fun w => ?_, .flt _ _ _ rfl⟩
    have hn : (FloatKind.f64.decode b').isNaN = false := by simpa using hnan
    change Sem.run P (match FloatKind.f64.decode b' with
      | .nan s t => if FloatKind.f64.format.quiet t = t then (pure (Value.float .f64 b') : Sem Value) else do
        let kept ← choose (.extern "math.Floor,Ceil,Trunc,RoundToEven.signallingNaN kept" 2)
        pure (Value.float .f64 (if kept == 1 then b' else FloatKind.f64.encode (.nan s (FloatKind.f64.format.quiet t))))
      | d => (pure (Value.float .f64 (FloatKind.f64.encode (d.integral way))) : Sem Value)) w = _
    revert hn
    generalize FloatKind.f64.decode b' = d
    intro hn
    cases d <;> first | rfl | (simp [Ieee.Datum.isNaN] at hn)
/-- One of several contracts. -/
def orX (A C : Ext) : Ext := fun f => match A f with | some F => some F | none => C f
theorem orX_ok {P : Program} {ro : Nat} {B : Base} {A C : Ext} (ha : XOk P ro B A) (hc : XOk P ro B C) : XOk P ro B (orX A C) := by
  intro f F hF
  unfold orX at hF
  split at hF
  · rename_i h
    cases hF
    exact ha f _ h
  · exact hc f F hF
theorem orX_l {A C : Ext} {f : FuncId} {F : List Value → Heap → Option (Value × Heap)} (h : A f = some F) : orX A C f = some F := by unfold orX; rw [h]
theorem orX_r {A C : Ext} {f : FuncId} (h : A f = none) : orX A C f = C f := by unfold orX; rw [h]
/-- A contract of one function of one value. -/
def soloX (n : Nat) (F : Value → Option Value) : Ext := fun f => if f = n then some (ext1 F) else none
theorem soloX_ok {P : Program} {ro : Nat} {B : Base} {n : FuncId} {fn : Func} {e : Array Value → Sem Value} {G : Value → Option Value} (hf : P.funcs[n]? = some fn) (hn : (fn.name == "runtime.NumGoroutine") = false) (hb : fn.body.isNone = true) (h1 : (Extern.findNext fn).isNone = true) (h2 : Extern.find fn = some e)
    (hF : ∀ (ρ : List Loc) (x y r : Value), G x = some r → VR P ro ρ x y → ∃ r', (∀ w, (e #[y]).run P w = .ok r' w) ∧ VR P ro ρ r r') : XOk P ro B (soloX n G) := by
  intro f F hF' args h r h' hr ρ w args' hs hB hargs
  unfold soloX at hF'
  split at hF'
  · rename_i q
    subst q
    cases hF'
    exact xok_one (F := G) hf hn hb h1 h2 hF args h r h' hr ρ w args' hs hargs
  · cases hF'
theorem xBits_ok {B : Base} : XOk Try.prog ro B (soloX 51 gBits) := soloX_ok (e := Extern.MathFloatBits.float64bits) Try.func51 rfl rfl (by kernel_rfl) (by kernel_rfl) gBits_ok
end Go.Proofs.Yteignhphimfmkaa.Sim
