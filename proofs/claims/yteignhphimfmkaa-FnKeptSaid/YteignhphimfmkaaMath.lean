/- What the functions without a body come to: bits of floats. Lemmas only; no condition. -/
import Derived.Test.YteignhphimfmkaaSimR
import Derived.Test.YteignhphimfmkaaSimT
set_option linter.unusedSimpArgs false
set_option linter.unusedVariables false
namespace Go.Proofs.Yteignhphimfmkaa.Sim
open Go Go.RowKit
theorem callFunc_ext {P : Program} {f : FuncId} {fn : Func} {args : Array Value} {w : World} {e : Array Value → Sem Value} {v : Value} (hf : P.funcs[f]? = some fn) (hn : (fn.name == "runtime.NumGoroutine") = false) (hb : fn.body.isNone = true) (h1 : (Extern.findNext fn).isNone = true) (h2 : Extern.find fn = some e)
    (hr : (e args).run P w = .ok v w) : (callFunc f args).run P w = .ok (.value v) w := by
  have h1' : Extern.findNext fn = none := by simpa using h1
  have hn' : ¬ fn.name = "runtime.NumGoroutine" := by simpa using hn
  have hb' : fn.body = none := by simpa using hb
  simp [callFunc, hf, hn', hb', h1', h2, hr]
theorem vrs_one {P : Program} {ro : Nat} {ρ : List Loc} {x : Value} {args' : List Value} (h : VRs P ro ρ [x] args') : ∃ y, args' = [y] ∧ VR P ro ρ x y := by
  cases h with
  | cons _ y _ ys h t => cases t; exact ⟨y, rfl, h⟩
/-- A function that leaves memory alone, and works on one value. -/
theorem xok_one {P : Program} {ro : Nat} {B : Base} {f : FuncId} {fn : Func} {e : Array Value → Sem Value} {F : Value → Option Value} (hf : P.funcs[f]? = some fn) (hn : (fn.name == "runtime.NumGoroutine") = false) (hb : fn.body.isNone = true) (h1 : (Extern.findNext fn).isNone = true) (h2 : Extern.find fn = some e)
    (hF : ∀ (ρ : List Loc) (x y r : Value), F x = some r → VR P ro ρ x y → ∃ r', (∀ w, (e #[y]).run P w = .ok r' w) ∧ VR P ro ρ r r') (args : List Value) (h : Heap) (r : Value) (h' : Heap)
    (hr : (match args with | [x] => (F x).map fun v => (v, h) | _ => none) = some (r, h')) (ρ : List Loc) (w : World) (args' : List Value) (hs : SR P ro B ρ h w) (hargs : VRs P ro ρ args args') :
    CallOk P f ⟨args'⟩ w fun r' w' => ∃ ρ', Pre ρ ρ' ∧ SR P ro B ρ' h' w' ∧ VR P ro ρ' r r' ∧ Below B.n w w' := by
  split at hr
  · rename_i x
    obtain ⟨y, rfl, hy⟩ := vrs_one hargs
    cases hFx : F x with
    | none => rw [hFx] at hr; cases hr
    | some v =>
      rw [hFx] at hr
      simp only [Option.map_some, Option.some.injEq, Prod.mk.injEq] at hr
      obtain ⟨rfl, rfl⟩ := hr
      obtain ⟨r', hr', hv⟩ := hF ρ x y v hFx hy
      exact .inl ⟨r', w, callFunc_ext hf hn hb h1 h2 (hr' w), ρ, Pre.refl _, hs, hv, Below.refl _ _⟩
  · cases hr
def fBits : Value → Option Value
  | .float .f32 b => if (FloatKind.f32.decode b).isNaN then none else some (.int .u32 b)
  | _ => none
def fFrom : Value → Option Value
  | .int .u32 n => some (.float .f32 (cf .f32 n.toNat))
  | _ => none
def ext1 (F : Value → Option Value) (args : List Value) (h : Heap) : Option (Value × Heap) := match args with | [x] => (F x).map fun v => (v, h) | _ => none
def extB : Ext := fun f => if f = 44 then some (ext1 fBits) else if f = 47 then some (ext1 fFrom) else none
theorem extB_ok {ro : Nat} {B : Base} : XOk Try.prog ro B extB := by
  intro f F hF args h r h' hr ρ w args' hs hB hargs
  unfold extB at hF
  split at hF
  · rename_i hf
    subst hf
    cases hF
    refine xok_one (F := fBits) (e := Extern.MathFloatBits.float32bits) Try.func44 rfl rfl (by kernel_rfl) (by kernel_rfl) (fun ρ x y r hx hv => ?_) args h r h' hr ρ w args' hs hargs
    cases hv <;> simp only [fBits] at hx <;> first | (cases hx; done) | skip
    rename_i k b b' hb
    cases k with
    | f64 => simp at hx
    | f32 =>
      simp only at hx
      split at hx
      · cases hx
      · rename_i hnan
        cases hx
        have : b' = b := by
          unfold cf at hb
          split at hb
          · rename_i hq
            rw [← hb] at hnan
            exact absurd (by decide +kernel) hnan
          · exact hb
        subst this
        exact ⟨.int .u32 b', fun w => rfl, .int _ _⟩
  · split at hF
    · rename_i hf
      subst hf
      cases hF
      refine xok_one (F := fFrom) (e := Extern.MathFloatBits.float32frombits) Try.func47 rfl rfl (by kernel_rfl) (by kernel_rfl) (fun ρ x y r hx hv => ?_) args h r h' hr ρ w args' hs hargs
      cases hv <;> simp only [fFrom] at hx <;> first | (cases hx; done) | skip
      rename_i k n
      cases k <;> simp only at hx <;> first | (cases hx; done) | skip
      cases hx
      exact ⟨.float .f32 n.toNat, fun w => rfl, .flt _ _ _ rfl⟩
    · cases hF
theorem extB_n : XN extB := by
  intro f hf
  unfold extB
  split
  · rename_i h; subst h; exact absurd hf (by decide)
  · split
    · rename_i h; subst h; exact absurd hf (by decide)
    · rfl
end Go.Proofs.Yteignhphimfmkaa.Sim
