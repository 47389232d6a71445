/- Functions of the library that are told by what they answer. Lemmas only; no condition. -/
import Derived.Test.YtikanmboimjhgaaDoorJob
import Derived.Test.YtikanmboimjhgaaDoorSimU
import Derived.Test.YtikanmboimjhgaaDoorShelf
import Derived.Lib.AppendIntMem
set_option linter.unusedSimpArgs false
set_option linter.unusedVariables false
namespace Go.Proofs.YtikanmboimjhgaaDoor.Sim
open Go Go.RowKit
theorem callOk_calls {P : Program} {f : FuncId} {fn : Func} {args : Array Value} {w : World} {R : Value → World → Prop} (hf : P.funcs[f]? = some fn) (hn : fn.name ≠ "runtime.NumGoroutine") (hb : fn.body.isSome = true) (h : Calls P f args w fun e w' => ∃ v, e = .returned v ∧ R v w') : CallOk P f args w R := by
  right
  obtain ⟨c, hc⟩ := Option.isSome_iff_exists.1 hb
  exact ⟨by simp [callFunc, hf, hn, hc], h⟩
theorem vrs_two {P : Program} {ro : Nat} {ρ : List Loc} {x y : Value} {args' : List Value} (h : VRs P ro ρ [x, y] args') : ∃ u v, args' = [u, v] ∧ VR P ro ρ x u ∧ VR P ro ρ y v := by
  cases h with
  | cons _ u _ ys h t => cases t with
    | cons _ v _ zs h' t' => cases t'; exact ⟨u, v, rfl, h, h'⟩
def fIdx (args : List Value) (h : Heap) : Option (Value × Heap) := match args with
  | [.string s, .int .u8 c] => some (.int .i64 (Lib.indexByte s.data.toList c.toNat.toUInt8), h)
  | _ => none
def fSub (args : List Value) (h : Heap) : Option (Value × Heap) := match args with
  | [.string s, .string ⟨⟨[c]⟩⟩] => some (.int .i64 (Lib.indexByte s.data.toList c), h)
  | _ => none
def fDec (args : List Value) (h : Heap) : Option (Value × Heap) := match args with
  | [.int .i64 n, .int .i64 b] => if b = 10 ∧ -9223372036854775808 ≤ n ∧ n ≤ 9223372036854775807 then some (.string ⟨(Lib.itoa n).toArray⟩, h) else none
  | _ => none
section
variable {ro : Nat} {B : Base} {args : List Value} {h h' : Heap} {r : Value} {ρ : List Loc} {w : World} {args' : List Value}
theorem fIdx_ok (hr : fIdx args h = some (r, h')) (hs : SR Tryd.prog ro B ρ h w) (hB : B.n ≤ w.heap.size) (ha : VRs Tryd.prog ro ρ args args') :
    CallOk Tryd.prog 32 ⟨args'⟩ w fun r' w' => ∃ ρ', Pre ρ ρ' ∧ SR Tryd.prog ro B ρ' h' w' ∧ VR Tryd.prog ro ρ' r r' ∧ Below B.n w w' := by
  unfold fIdx at hr
  split at hr
  · rename_i s c
    cases hr
    obtain ⟨u, v, rfl, hu, hv⟩ := vrs_two ha
    cases hu
    cases hv
    refine callOk_calls Tryd.func32 (by decide) rfl ((Tryd.strings_IndexByte s c w).mono fun e w' => ?_)
    rintro ⟨rfl, rfl⟩
    exact ⟨_, rfl, ρ, Pre.refl _, hs, .int _ _, Below.refl _ _⟩
  · cases hr
theorem fSub_ok (hr : fSub args h = some (r, h')) (hs : SR Tryd.prog ro B ρ h w) (hB : B.n ≤ w.heap.size) (ha : VRs Tryd.prog ro ρ args args') :
    CallOk Tryd.prog 37 ⟨args'⟩ w fun r' w' => ∃ ρ', Pre ρ ρ' ∧ SR Tryd.prog ro B ρ' h' w' ∧ VR Tryd.prog ro ρ' r r' ∧ Below B.n w w' := by
  unfold fSub at hr
  split at hr
  · rename_i s c
    cases hr
    obtain ⟨u, v, rfl, hu, hv⟩ := vrs_two ha
    cases hu
    cases hv
    refine callOk_calls Tryd.func37 (by decide) rfl ((Tryd.stringslite_Index_one s c w).mono fun e w' => ?_)
    rintro ⟨rfl, rfl⟩
    exact ⟨_, rfl, ρ, Pre.refl _, hs, .int _ _, Below.refl _ _⟩
  · cases hr
/-- The table of powers of ten stands below. -/
def TabB (B : Base) : Prop := ∀ w : World, (∀ k, k < B.m → w.heap[k]? = B.H k) → Lib.TabIs Tryd.prog w "internal/strconv.uint64pow10" .u64 Lib.pow10Tab
theorem fDec_ok (ht : TabB B) (hr : fDec args h = some (r, h')) (hs : SR Tryd.prog ro B ρ h w) (hB : B.n ≤ w.heap.size) (ha : VRs Tryd.prog ro ρ args args') :
    CallOk Tryd.prog 31 ⟨args'⟩ w fun r' w' => ∃ ρ', Pre ρ ρ' ∧ SR Tryd.prog ro B ρ' h' w' ∧ VR Tryd.prog ro ρ' r r' ∧ Below B.n w w' := by
  unfold fDec at hr
  split at hr
  · rename_i n b
    split at hr
    · rename_i hc
      obtain ⟨rfl, h0, h2⟩ := hc
      cases hr
      obtain ⟨u, v, rfl, hu, hv⟩ := vrs_two ha
      cases hu
      cases hv
      refine callOk_calls Tryd.func31 (by decide) rfl ((Tryd.strconv_FormatInt_10 n h0 h2 w (ht w hs.glob)).mono fun e w' => ?_)
      rintro ⟨rfl, k, os, rfl⟩
      exact ⟨_, rfl, ρ, Pre.refl _, hs.below hB (Lib.below_grow _ w (Nat.le_refl _) k os), .str _, Lib.below_grow _ w hB k os⟩
    · cases hr
  · cases hr
end
def extD : Ext := fun f => if f = 32 then some fIdx else if f = 37 then some fSub else if f = 31 then some fDec else none
theorem extD_ok {ro : Nat} {B : Base} (ht : TabB B) : XOk Tryd.prog ro B extD := by
  intro f F hF args h r h' hr ρ w args' hs hB hargs
  unfold extD at hF
  split at hF
  · rename_i e; subst e; cases hF; exact fIdx_ok hr hs hB hargs
  · split at hF
    · rename_i e; subst e; cases hF; exact fSub_ok hr hs hB hargs
    · split at hF
      · rename_i e; subst e; cases hF; exact fDec_ok ht hr hs hB hargs
      · cases hF
def libF0 : List Nat := [32, 37, 31, 30, 19]
def libF1 : List Nat := [13]
def libF : List Nat := libF0 ++ libF1
/-- What is asked of what lies outside. -/
structure XD (X : Ext) : Prop where
  n : ∀ f, (noBody.contains f || libF.contains f) = false → X f = none
  idx : X 32 = some fIdx
  sub : X 37 = some fSub
  dec : X 31 = some fDec
theorem xd_extD : XD extD := by
  refine ⟨fun f hf => ?_, rfl, rfl, rfl⟩
  unfold extD
  split
  · rename_i e; subst e; exact absurd hf (by decide)
  · split
    · rename_i e; subst e; exact absurd hf (by decide)
    · split
      · rename_i e; subst e; exact absurd hf (by decide)
      · rfl
section
variable {ro : Nat} {X : Ext}
theorem idx_r (hX : XD X) (l : List UInt8) (c : Int) (h : Heap) : Ret Tryd.prog ro X 32 [.string ⟨⟨l⟩⟩, .int .u8 c] h (.int .i64 (Lib.indexByte l c.toNat.toUInt8)) := fun _ _ => cf_eq (call_ext hX.idx rfl)
theorem sub_r (hX : XD X) (l : List UInt8) (c : UInt8) (h : Heap) : Ret Tryd.prog ro X 37 [.string ⟨⟨l⟩⟩, .string ⟨⟨[c]⟩⟩] h (.int .i64 (Lib.indexByte l c)) := fun _ _ => cf_eq (call_ext hX.sub rfl)
theorem fmt_r (hX : XD X) {n : Int} (h0 : 0 ≤ n) (h1 : n ≤ 1099511627776) (h : Heap) : Ret Tryd.prog ro X 31 [.int .i64 n, .int .i64 10] h (.string ⟨⟨Lib.itoa n⟩⟩) := fun _ _ => cf_eq (call_ext hX.dec (by simp only [fDec]; rw [if_pos ⟨trivial, by omega, by omega⟩]))
end
end Go.Proofs.YtikanmboimjhgaaDoor.Sim
