/- The row FnExactFarBeamsSaid. No condition. The frame follows the kit's printed laws; the walk is this session's. -/
import Derived.Test.YtbakaopgdcojfaaRows
import Derived.Test.YtbakaopgdcojfaaSimR
import Derived.Test.YtbakaopgdcojfaaFal
import Derived.Test.YtbakaopgdcojfaaArg
import Derived.WalkKit
import Derived.ProofKit
import Derived.OpenShut
import Derived.ShutString
import Derived.ChangeOld
import Derived.Below
import Derived.SizedLaws
import Derived.Carry
namespace Go.Proofs.Ytbakaopgdcojfaa.fnExactFarBeams
open Go.ChangeShapes Go.WideShapes Go.ChangeAt Go.RowKit
open Go.ChangeMaps (open_string shut_string)
set_option linter.unusedVariables false
theorem own : ownKnob Try.prog.godebug = none := by kernel_rfl
theorem laid : laidOutB Try.prog = true := by kernel_rfl
set_option maxRecDepth 100000 in
theorem lifted (os : Os) (started : os.Started) (H : Type) (enc : TypeId × Value → H) :
    ReturnsInHanded {} Try.checked os 6 .any (Rows.fnExactFarBeamsSpec.pre6 enc Try.prog Try.f6 Rows.fnExactFarBeamsRow.domain false) (Rows.fnExactFarBeamsSpec.post enc Try.prog Try.f6 false true false false) := by
  refine returnsInHanded_of_change_sized (C := Try.checked) own started (by kernel_rfl) Try.func6
    (ChangeSpec.witness6 (enc := enc) (C := Try.checked) false ⟨#[], #[.slice none 0 0, .int .i64 0], []⟩ 8 (by kernel_rfl) (by kernel_rfl) (by kernel_rfl) (by kernel_rfl)) ?_
  intro W base args ds gs before hval0 hW hcnd hsz0 _
  have hsz : (DataW.weightsEach Try.prog (Try.f6.params.toList ++ Rows.fnExactFarBeamsSpec.plain.varTypes Try.prog) (ds ++ gs)).all (· ≤ reachBytes) = true := hsz0
  have hval : ∀ (j : Nat) t v, Try.f6.params[j]? = some t → args[j]? = some v → Value.okWide Try.prog W .any base t v := hval0
  have hW' := hW
  obtain ⟨p, q, hA0, hV, rfl, hfz, hnd⟩ := hW
  have hA : DataW.TrodAll enc Try.prog W 0 (fun _ => true) true Try.f6.params.toList args.toList ds p := hA0
  rw [Try.params6] at hA hval hsz
  obtain ⟨v0, vs0, d0, ds0, p0, q0, hargs, rfl, rfl, h0, r0⟩ := trodAll_cons hA
  obtain ⟨v1, vs1, d1, ds1, p1, q1, rfl, rfl, rfl, h1, r1⟩ := trodAll_cons r0
  obtain ⟨rfl, rfl, rfl⟩ := trodAll_nil r1
  obtain rfl : args = #[v0, v1] := by cases args; simp_all
  obtain ⟨rfl, rfl⟩ := trodVars_none hV
  have k0 : ∀ x ∈ p0, x.block < W.heap.size := fun x hx => hW'.lt x (by simp [hx])
  obtain ⟨n0, l0, as0, x0, A0, hl0, hd0⟩ := Sim.arg_ints Try.underlying37 (show Try.prog.cellsOf 103 = 4 by kernel_rfl) (by decide) (by kernel_rfl) (hval 0 37 v0 rfl rfl) h0
  have z0 : n0 ≤ 140737488351232 := Sim.arg_size hsz (j := 0) (t := 37) rfl rfl Try.underlying37 (show Try.prog.bytesOf 103 = 32 by kernel_rfl) (by decide) hd0
  obtain ⟨a1, rfl, rfl, rfl, y1⟩ := open_int Try.underlying2 (hval 1 2 v1 rfl rfl) h1
  clear hA0 hval0 hsz0 hsz
  have I0 : Sim.IS 0 1 4 (Sim.argH [as0]) (x0 0) n0 l0 := A0.is hl0 rfl
  have hs : Sim.SR Try.prog 1 W.heap.size (Sim.argR [as0]) (Sim.argH [as0]) W := Sim.SR_args [as0] (fun a ha => by
    simp only [List.mem_cons, List.mem_nil_iff, or_false] at ha
    rcases ha with rfl
    exact A0.ok)
  obtain ⟨hr0, hh0, hcall, hret⟩ := Sim.lawFar_c (ro := 1) (fun _ => rfl) (apart := a1) I0 (by omega) (Nat.le_refl 1)
  subst hret
  refine (Sim.law_calls Sim.mixed Sim.noX_ok Try.func6 rfl rfl hcall (ro := 1) hs (.cons _ _ _ _ (A0.vr 1 _ 0 rfl (by decide)) (.cons _ _ _ _ (.int _ _) .nil))).mono fun e W' ⟨he, bel⟩ => ?_
  subst he
  exact ⟨_, rfl, _, _, _, [], _, [], hW', trodAll_mk1 (shut_bool Try.underlying4 _), (trodAll_cons_mk (Below.trod laid (by kernel_rfl) (of_decide_eq_true (by kernel_rfl)) h0 bel k0) (trodAll_cons_mk (shut_int Try.underlying2 y1) trodAll_mk0)), rfl, bel.frame _, fun h => by cases h⟩
theorem over : Rows.fnExactFarBeamsRow.holds Try.pinned (OpenSpec.ofChange Rows.fnExactFarBeamsSpec) :=
  OpenClaim.holds_of_wide 6 Try.f6 rfl rfl rfl rfl rfl rfl rfl ⟨rfl, rfl, rfl, rfl, rfl⟩ rfl rfl rfl rfl rfl (by kernel_rfl) Try.func6 (by kernel_rfl)
    (of_decide_eq_true (by kernel_rfl)) (by unfold Func.isWrapper; first | (rw [if_pos (by decide +kernel)]; kernel_rfl) | (rw [if_neg (by decide +kernel)]; exact ⟨rfl, rfl⟩))
    (fun os started H enc _ => lifted os started H enc)
theorem proved : Rows.FnExactFarBeamsSaid := over
#print axioms proved
end Go.Proofs.Ytbakaopgdcojfaa.fnExactFarBeams
namespace Go.Proofs.Ytbakaopgdcojfaa
/-- The row, under a short name, for the claim. -/
theorem fnExactFarBeams_holds : Rows.FnExactFarBeamsSaid := fnExactFarBeams.proved
end Go.Proofs.Ytbakaopgdcojfaa
