/- The row FnKeptSaid. No condition. The frame follows the kit's printed laws; the walk is this session's. -/
import Derived.Test.YteignhphimfmkaaRows
import Derived.Test.YteignhphimfmkaaSimR
import Derived.Test.YteignhphimfmkaaKpe
import Derived.Test.YteignhphimfmkaaArb
import Derived.WalkKit
import Derived.ProofKit
import Derived.OpenShut
import Derived.ShutString
import Derived.ChangeOld
import Derived.Below
import Derived.SizedLaws
import Derived.Carry
namespace Go.Proofs.Yteignhphimfmkaa.fnKept
open Go.ChangeShapes Go.WideShapes Go.ChangeAt Go.RowKit
open Go.ChangeMaps (open_string shut_string)
set_option linter.unusedVariables false
theorem own : ownKnob Try.prog.godebug = none := by kernel_rfl
theorem laid : laidOutB Try.prog = true := by kernel_rfl
set_option maxRecDepth 100000 in
theorem lifted (os : Os) (started : os.Started) (H : Type) (enc : TypeId × Value → H) :
    ReturnsInHanded {} Try.checked os 3 .any (Rows.fnKeptSpec.pre6 enc Try.prog Try.f3 Rows.fnKeptRow.domain false) (Rows.fnKeptSpec.post enc Try.prog Try.f3 false true false false) := by
  refine returnsInHanded_of_change_sized (C := Try.checked) own started (by kernel_rfl) Try.func3
    (ChangeSpec.witness6 (enc := enc) (C := Try.checked) false ⟨#[], #[.slice none 0 0, .slice none 0 0], []⟩ 8 (by kernel_rfl) (by kernel_rfl) (by kernel_rfl) (by kernel_rfl)) ?_
  intro W base args ds gs before hval0 hW hcnd hsz0 _
  have hsz : (DataW.weightsEach Try.prog (Try.f3.params.toList ++ Rows.fnKeptSpec.plain.varTypes Try.prog) (ds ++ gs)).all (· ≤ reachBytes) = true := hsz0
  have hval : ∀ (j : Nat) t v, Try.f3.params[j]? = some t → args[j]? = some v → Value.okWide Try.prog W .any base t v := hval0
  have hW' := hW
  obtain ⟨p, q, hA0, hV, rfl, hfz, hnd⟩ := hW
  have hA : DataW.TrodAll enc Try.prog W 0 (fun _ => true) true Try.f3.params.toList args.toList ds p := hA0
  rw [Try.params3] at hA hval hsz
  obtain ⟨v0, vs0, d0, ds0, p0, q0, hargs, rfl, rfl, h0, r0⟩ := trodAll_cons hA
  obtain ⟨v1, vs1, d1, ds1, p1, q1, rfl, rfl, rfl, h1, r1⟩ := trodAll_cons r0
  obtain ⟨rfl, rfl, rfl⟩ := trodAll_nil r1
  obtain rfl : args = #[v0, v1] := by cases args; simp_all
  obtain ⟨rfl, rfl⟩ := trodVars_none hV
  have k0 : ∀ x ∈ p0, x.block < W.heap.size := fun x hx => hW'.lt x (by simp [hx])
  obtain ⟨n0, l0, as0, x0, A0, hl0, hd0⟩ := Sim.arg_bytes Try.underlying22 Try.underlying5 (by kernel_rfl) (hval 0 22 v0 rfl rfl) h0
  have z0 : n0 ≤ 140737488351232 := Sim.arg_size hsz (j := 0) (t := 22) rfl rfl Try.underlying22 (show Try.prog.bytesOf 5 = 1 by kernel_rfl) (by decide) hd0
  have k1 : ∀ x ∈ p1, x.block < W.heap.size := fun x hx => hW'.lt x (by simp [hx])
  obtain ⟨n1, l1, as1, x1, A1, hl1, hd1⟩ := Sim.arg_bytes Try.underlying22 Try.underlying5 (by kernel_rfl) (hval 1 22 v1 rfl rfl) h1
  have z1 : n1 ≤ 140737488351232 := Sim.arg_size hsz (j := 1) (t := 22) rfl rfl Try.underlying22 (show Try.prog.bytesOf 5 = 1 by kernel_rfl) (by decide) hd1
  clear hA0 hval0 hsz0 hsz
  subst hl0
  have I0 : Sim.VS 0 1 1 (Sim.argH [as0, as1]) (x0 0) l0.length (l0.map Sim.u8v) := Sim.ArgS.vs A0 (by rw [List.length_map]; omega) rfl
  subst hl1
  have I1 : Sim.VS 1 2 1 (Sim.argH [as0, as1]) (x1 1) l1.length (l1.map Sim.u8v) := Sim.ArgS.vs A1 (by rw [List.length_map]; omega) rfl
  have hs : Sim.SR Try.prog 2 (Sim.baseOf W) (Sim.argR [as0, as1]) (Sim.argH [as0, as1]) W := Sim.SR_args [as0, as1] (fun a ha => by
    simp only [List.mem_cons, List.mem_nil_iff, or_false] at ha
    rcases ha with rfl | rfl
    · exact A0.ok
    · exact A1.ok)
  obtain ⟨hr0, hh0, hcall, hret⟩ := (Sim.lawKept_c (ro := 2) I0 I1 (by simp [Sim.argH]) (by simp [Sim.argH]) (by simp [Sim.argH]) (by omega) (by omega))
  subst hret
  refine (Sim.law_calls Sim.mixed Sim.extK_ok Try.func3 rfl rfl hcall (ro := 2) hs (.cons _ _ _ _ (A0.vr 2 _ 0 rfl (by decide)) (.cons _ _ _ _ (A1.vr 2 _ 1 rfl (by decide)) .nil))).mono fun e W' ⟨he, bel⟩ => ?_
  subst he
  exact ⟨_, rfl, _, _, _, [], _, [], hW', trodAll_mk1 (shut_bool Try.underlying4 _), (trodAll_cons_mk (Below.trod laid (by kernel_rfl) (of_decide_eq_true (by kernel_rfl)) h0 bel k0) (trodAll_cons_mk (Below.trod laid (by kernel_rfl) (of_decide_eq_true (by kernel_rfl)) h1 bel k1) trodAll_mk0)), rfl, bel.frame _, fun h => by cases h⟩
theorem fact_inp : (Rows.fnKeptRow.inPlace == Try.pinned.checked.prog.inPlace 3) = true := by kernel_rfl
theorem fact_unf : (Rows.fnKeptRow.unfollowed == Try.pinned.checked.prog.unfollowed 3) = true := by kernel_rfl
theorem fact_rec : (Rows.fnKeptRow.recurses == Try.pinned.checked.prog.recurses 3) = true := by kernel_rfl
theorem fact_nam : (Rows.fnKeptRow.named == Try.pinned.checked.prog.varsNamed 3) = true := by kernel_rfl
theorem closed : joinedFacts Try.pinned.checked.prog 3 Try.f3 Rows.fnKeptSpec Rows.fnKeptRow = true := by
  unfold joinedFacts
  rw [fact_inp, fact_unf, fact_rec, fact_nam]
  kernel_rfl
theorem over : Rows.fnKeptRow.holds Try.pinned (OpenSpec.ofChange Rows.fnKeptSpec) :=
  OpenClaim.holds_of_wide 3 Try.f3 rfl rfl rfl rfl rfl rfl rfl ⟨rfl, rfl, rfl, rfl, rfl⟩ rfl rfl rfl rfl rfl (by kernel_rfl) Try.func3 closed
    (of_decide_eq_true (by kernel_rfl)) (by unfold Func.isWrapper; first | (rw [if_pos (by decide +kernel)]; kernel_rfl) | (rw [if_neg (by decide +kernel)]; exact ⟨rfl, rfl⟩))
    (fun os started H enc _ => lifted os started H enc)
theorem proved : Rows.FnKeptSaid := over
#print axioms proved
end Go.Proofs.Yteignhphimfmkaa.fnKept
namespace Go.Proofs.Yteignhphimfmkaa
/-- The row, under a short name, for the claim. -/
theorem fnKept_holds : Rows.FnKeptSaid := fnKept.proved
end Go.Proofs.Yteignhphimfmkaa
