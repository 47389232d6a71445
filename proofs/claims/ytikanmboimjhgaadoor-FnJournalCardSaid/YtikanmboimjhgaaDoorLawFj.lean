/- The row FnJournalSaid. No condition. The frame follows the kit's printed laws; the walk is this session's. -/
import Derived.Test.YtikanmboimjhgaaDoorRows
import Derived.Test.YtikanmboimjhgaaDoorSimR
import Derived.Test.YtikanmboimjhgaaDoorFje
import Derived.WalkKit
import Derived.ProofKit
import Derived.OpenShut
import Derived.ShutString
import Derived.ChangeOld
import Derived.Below
import Derived.SizedLaws
import Derived.Carry
import Derived.Deep.DeepHandedRow
import Derived.Stop.LaidErr
import Derived.LaidLaws
import Derived.Lib.LaidTab
import Derived.Test.YtikanmboimjhgaaDoorTie
import Derived.Test.YtikanmboimjhgaaDoorCards
import Derived.SevenTiedAt
namespace Go.Proofs.YtikanmboimjhgaaDoor.fnJournal
open Go.ChangeShapes Go.WideShapes Go.ChangeAt Go.RowKit
open Go.ChangeMaps (open_string shut_string)
set_option linter.unusedVariables false
theorem own : ownKnob Tryd.prog.godebug = none := by kernel_rfl
theorem laid : laidOutB Tryd.prog = true := by kernel_rfl
def cellsOfTab : DataW Unit → Array Value
  | .agg ds => (ds.map fun d => match d with | .lit (.int k z) => Value.int k z | _ => Value.nilFunc).toArray
  | _ => #[]
/-- The settled world, its tables laid. -/
noncomputable def laidWorld (os : Os) : World :=
  let w0 := World.holding Tryd.prog os ⟨#[], #[], []⟩
  let put (h : Array Obj) (g : Nat) (cs : Array Value) : Array Obj := h.modify g fun
    | .cells _ t frozen => .cells cs t frozen
    | o => o
  { w0 with heap := put (put (put (w0.heap) 3 (cellsOfTab (Rows.laid_math_bits_deBruijn32tab (H := Unit)))) 4 (cellsOfTab (Rows.laid_math_bits_deBruijn64tab (H := Unit)))) 1 (cellsOfTab (Rows.laid_internal_strconv_uint64pow10 (H := Unit))) }
theorem laid_met (os : Os) (args : Array Value) : laidMet Tryd.prog Rows.fnJournalRow.laid ((laidWorld os).forCall (fun _ _ => 0) ⟨#[], args, []⟩).memory :=
  laidMet_of_run' 8 (by kernel_rfl) (by kernel_rfl)
set_option maxRecDepth 100000 in
theorem lifted (os : Os) (started : os.Started) (H : Type) (enc : TypeId × Value → H) (F : Stop.Interp) :
    ReturnsInHanded {} Tryd.checked os 3 .any ((OpenSpec.ofChange Rows.fnJournalSpec).preRow enc Tryd.prog Tryd.f3 Rows.fnJournalRow.domain false Rows.fnJournalRow.laid) (((OpenSpec.ofChange Rows.fnJournalSpec).at F).post enc Tryd.prog Tryd.f3 false true false false) := by
  refine returnsInHanded_of_row (C := Tryd.checked) (s := OpenSpec.ofChange Rows.fnJournalSpec) own started (by kernel_rfl) Tryd.func3
    (witness_row_at (enc := enc) (C := Tryd.checked) false (laidWorld os) #[.slice none 0 0, .slice none 0 0] rfl (by kernel_rfl) (by kernel_rfl) (by kernel_rfl) (OpenSpec.preRow_of_B rfl 8 (by kernel_rfl) (by kernel_rfl) (laid_met os _))) ?_
  intro W base args ds gs before hval0 hW _ _ hsz0 hL _ _
  have hsz : (DataW.weightsEach Tryd.prog (Tryd.f3.params.toList ++ Rows.fnJournalSpec.plain.varTypes Tryd.prog) (ds ++ gs)).all (· ≤ reachBytes) = true := hsz0
  have htab : Lib.TabIs Tryd.prog W "internal/strconv.uint64pow10" .u64 Lib.pow10Tab := Lib.tabIs_of_head (g := 1) (by kernel_rfl) (by kernel_rfl) Tryd.underlying100 Tryd.underlying58 (by kernel_rfl) (by kernel_rfl) (laidMet.tail (laidMet.tail hL))
  have hval : ∀ (j : Nat) t v, Tryd.f3.params[j]? = some t → args[j]? = some v → Value.okWide Tryd.prog W .any base t v := hval0
  have hW' := hW
  obtain ⟨p, q, hA0, hV, rfl, hfz, hnd⟩ := hW
  have hA : DataW.TrodAll enc Tryd.prog W 0 (fun _ => true) true Tryd.f3.params.toList args.toList ds p := hA0
  rw [Tryd.params3] at hA hval hsz
  obtain ⟨v0, vs0, d0, ds0, p0, q0, hargs, rfl, rfl, h0, r0⟩ := trodAll_cons hA
  obtain ⟨v1, vs1, d1, ds1, p1, q1, rfl, rfl, rfl, h1, r1⟩ := trodAll_cons r0
  obtain ⟨rfl, rfl, rfl⟩ := trodAll_nil r1
  obtain rfl : args = #[v0, v1] := by cases args; simp_all
  obtain ⟨rfl, rfl⟩ := trodVars_none hV
  have k0 : ∀ x ∈ p0, x.block < W.heap.size := fun x hx => hW'.lt x (by simp [hx])
  obtain ⟨n0, l0, as0, x0, A0, hl0, hd0⟩ := Sim.arg_bytes Tryd.underlying22 Tryd.underlying5 (by kernel_rfl) (hval 0 22 v0 rfl rfl) h0
  have z0 : n0 ≤ 140737488351232 := Sim.arg_size hsz (j := 0) (t := 22) rfl rfl Tryd.underlying22 (show Tryd.prog.bytesOf 5 = 1 by kernel_rfl) (by decide) hd0
  have k1 : ∀ x ∈ p1, x.block < W.heap.size := fun x hx => hW'.lt x (by simp [hx])
  obtain ⟨n1, l1, as1, x1, A1, hl1, hd1⟩ := Sim.arg_bytes Tryd.underlying22 Tryd.underlying5 (by kernel_rfl) (hval 1 22 v1 rfl rfl) h1
  have z1 : n1 ≤ 140737488351232 := Sim.arg_size hsz (j := 1) (t := 22) rfl rfl Tryd.underlying22 (show Tryd.prog.bytesOf 5 = 1 by kernel_rfl) (by decide) hd1
  clear hA0 hval0 hsz0 hsz
  subst hl0
  have I0 : Sim.VS 0 1 1 (Sim.argH [as0, as1]) (x0 0) l0.length (l0.map Sim.u8v) := Sim.ArgS.vs A0 (by rw [List.length_map]; omega) rfl
  subst hl1
  have I1 : Sim.VS 1 2 1 (Sim.argH [as0, as1]) (x1 1) l1.length (l1.map Sim.u8v) := Sim.ArgS.vs A1 (by rw [List.length_map]; omega) rfl
  have hs : Sim.SR Tryd.prog 2 (Sim.baseOf W) (Sim.argR [as0, as1]) (Sim.argH [as0, as1]) W := Sim.SR_args [as0, as1] (fun a ha => by
    simp only [List.mem_cons, List.mem_nil_iff, or_false] at ha
    rcases ha with rfl | rfl
    · exact A0.ok
    · exact A1.ok)
  obtain ⟨hr0, hh0, hcall, hret⟩ := (Sim.lawFn_c (ro := 2) (Sim.xf_extH 2) (fun hm => Sim.Desk_c I1 (Nat.le_refl 2) (by omega)) I0 I1 (by simp [Sim.argH]) (by omega) (by omega) (Nat.le_refl 2))
  subst hret
  refine (Sim.law_calls Sim.mixed (Sim.extH_ok (Sim.tabB_of htab)) Tryd.func3 rfl rfl hcall (ro := 2) hs (.cons _ _ _ _ (A0.vr 2 _ 0 rfl (by decide)) (.cons _ _ _ _ (A1.vr 2 _ 1 rfl (by decide)) .nil))).mono fun e W' ⟨he, bel⟩ => ?_
  subst he
  exact ⟨_, rfl, _, _, _, [], _, [], hW', trodAll_mk1 (shut_bool Tryd.underlying4 _), (trodAll_cons_mk (Below.trod laid (by kernel_rfl) (of_decide_eq_true (by kernel_rfl)) h0 bel k0) (trodAll_cons_mk (Below.trod laid (by kernel_rfl) (of_decide_eq_true (by kernel_rfl)) h1 bel k1) trodAll_mk0)), rfl, bel.frame _, fun h => by cases h⟩
theorem over : Rows.fnJournalRow.holds Tryd.pinned (OpenSpec.ofChange Rows.fnJournalSpec) :=
  OpenClaim.holds_of_cond 3 Tryd.f3 rfl rfl rfl rfl rfl rfl rfl ⟨rfl, rfl, rfl, rfl, rfl⟩ rfl rfl rfl rfl rfl (by kernel_rfl) Tryd.func3 (by kernel_rfl)
    (of_decide_eq_true (by kernel_rfl)) (by unfold Func.isWrapper; first | (rw [if_pos (by decide +kernel)]; kernel_rfl) | (rw [if_neg (by decide +kernel)]; exact ⟨rfl, rfl⟩))
    (fun os started H enc _ F => by rw [OpenClaim.pre_eq_preRow]; exact lifted os started H enc F)
set_option maxRecDepth 100000 in
theorem proved : Rows.FnJournalCardSaid :=
  Claim7.holds_tied_plain_at .later [] [.data, .data, .data] true (true, "d8f666f5c1588619a80dfee6097d953f1c36e5851c4a9725e8808ac132b872a2") false
    over (fun _ h => by cases h) (by kernel_rfl) (fun _ h => by cases h) fnJournal_row_tie rfl ⟨rfl, rfl⟩ (by kernel_rfl) rfl
    (fun f fn hf hfn => by
      obtain rfl : f = 3 := Option.some.inj ((show Tryd.prog.funcNamed "loop.example/g01181/laws.FnJournal" = some 3 by kernel_rfl).symm.trans hf) |>.symm
      obtain rfl : fn = Tryd.f3 := (Option.some.inj (Tryd.func3.symm.trans hfn)).symm
      exact ⟨by kernel_rfl, fun j t ht => by
        rw [Tryd.params3] at ht
        have h3 : t = 22 := by
          rcases j with _ | j
          · simpa using ht.symm
          rcases j with _ | j
          · simpa using ht.symm
          · simp at ht
        subst h3
        exact (show Tryd.prog.wantsStandIn 22 = false by kernel_rfl)⟩)
    (by kernel_rfl)
#print axioms proved
end Go.Proofs.YtikanmboimjhgaaDoor.fnJournal
namespace Go.Proofs.YtikanmboimjhgaaDoor
/-- The card, under a short name, for the claim. -/
theorem fnJournal_holds : Rows.FnJournalCardSaid := fnJournal.proved
end Go.Proofs.YtikanmboimjhgaaDoor
