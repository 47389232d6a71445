/-
  No cell of these rows narrows 'for every input' (looked for: loops, veiled, ifaces, maps, wideKeys, modest, calm, conditions, laid).
  DERIVED. THE GIVEN ROWS OF THIS SEAT. 10 by the template 'for every input the law returns true; each argument reads behind the call as it read before'; 0 by the template 'total and deterministic' (their statements: YtbakaopgdcojfaaTotals.lean).
  GIVEN WITH THE SEED: the statements are not yours to turn. If you find one false, say at which input.
  Laid BY PROGRAM, IN A SANDBOX (cutbox-rows.mjs): the forced cells as the released guide's own fill.sh prints them over the translation 77570cdcb18ddf39… (all of the seat's roots in one cut). By AI agents, Wed Nov 11 2026. No macro, syntax, notation, axiom, sorry.
-/
import Derived.Test.YtbakaopgdcojfaaChecked
import GoSem.Claim
import GoSem.ClaimJoined
import GoSem.ClaimMapViews
import Derived.JoinedTies
import Derived.KernelRfl
namespace Go.Proofs.Ytbakaopgdcojfaa
/- THE CELL 'sum', in the pinned program and in every row, IS THE sha256 OF THE DUMP (.gsa) THAT YtbakaopgdcojfaaProg.lean LOADS. Nothing in Lean hashes anything: it is a label: what it is worth is what the hold of that sum in a sandbox is worth. -/
noncomputable def Try.pinned : Pinned := { name := "ytbakaopgdcojfaa", sum := "77570cdcb18ddf3983c168aceb4ce95c053884e195c4298f2daf2ce270f7b455", checked := Try.checked }
namespace Rows
def none {H : Type} : Left H := { results := [], args := [] }

/-- 'laws.FnExactFrameSize': WHATEVER THE INPUT: true; the input reads as it did. -/
def fnExactFrameSizeSpec : ChangeSpec := { name := "fnExactFrameSize", fn := fun _ => fun
  | [d] => { results := [.lit (.bool true)], args := [d] }
  | _ => none }
def fnExactFrameSizeRow : OpenClaim := { program := "ytbakaopgdcojfaa", sum := "77570cdcb18ddf3983c168aceb4ce95c053884e195c4298f2daf2ce270f7b455", func := "loop.example/g01181/laws.FnExactFrameSize", spec := "fnExactFrameSize", apart := false }
def FnExactFrameSizeSaid : Prop := fnExactFrameSizeRow.holds Try.pinned (OpenSpec.ofChange fnExactFrameSizeSpec)

/-- ITS FALSE NEIGHBOUR: 'it returns false'. Refute it at one input. -/
def fnExactFrameSizeWrong : ChangeSpec := { name := "fnExactFrameSize", fn := fun _ => fun
  | [d] => { results := [.lit (.bool false)], args := [d] }
  | _ => none }
def FnExactFrameSizeWrongFalsely : Prop := fnExactFrameSizeRow.holds Try.pinned (OpenSpec.ofChange fnExactFrameSizeWrong)

/-- 'laws.FnExactFirstDifference': WHATEVER THE INPUT: true; the input reads as it did. -/
def fnExactFirstDifferenceSpec : ChangeSpec := { name := "fnExactFirstDifference", fn := fun _ => fun
  | [d1, d2] => { results := [.lit (.bool true)], args := [d1, d2] }
  | _ => none }
def fnExactFirstDifferenceRow : OpenClaim := { program := "ytbakaopgdcojfaa", sum := "77570cdcb18ddf3983c168aceb4ce95c053884e195c4298f2daf2ce270f7b455", func := "loop.example/g01181/laws.FnExactFirstDifference", spec := "fnExactFirstDifference", apart := false }
def FnExactFirstDifferenceSaid : Prop := fnExactFirstDifferenceRow.holds Try.pinned (OpenSpec.ofChange fnExactFirstDifferenceSpec)

/-- ITS FALSE NEIGHBOUR: 'it returns false'. Refute it at one input. -/
def fnExactFirstDifferenceWrong : ChangeSpec := { name := "fnExactFirstDifference", fn := fun _ => fun
  | [d1, d2] => { results := [.lit (.bool false)], args := [d1, d2] }
  | _ => none }
def FnExactFirstDifferenceWrongFalsely : Prop := fnExactFirstDifferenceRow.holds Try.pinned (OpenSpec.ofChange fnExactFirstDifferenceWrong)

/-- 'laws.FnExactNewDesk': WHATEVER THE INPUT: true; the input reads as it did. -/
def fnExactNewDeskSpec : ChangeSpec := { name := "fnExactNewDesk", fn := fun _ => fun
  | [] => { results := [.lit (.bool true)], args := [] }
  | _ => none }
def fnExactNewDeskRow : OpenClaim := { program := "ytbakaopgdcojfaa", sum := "77570cdcb18ddf3983c168aceb4ce95c053884e195c4298f2daf2ce270f7b455", func := "loop.example/g01181/laws.FnExactNewDesk", spec := "fnExactNewDesk", apart := false }
def FnExactNewDeskSaid : Prop := fnExactNewDeskRow.holds Try.pinned (OpenSpec.ofChange fnExactNewDeskSpec)

/-- ITS FALSE NEIGHBOUR: 'it returns false'. Refute it at one input. -/
def fnExactNewDeskWrong : ChangeSpec := { name := "fnExactNewDesk", fn := fun _ => fun
  | [] => { results := [.lit (.bool false)], args := [] }
  | _ => none }
def FnExactNewDeskWrongFalsely : Prop := fnExactNewDeskRow.holds Try.pinned (OpenSpec.ofChange fnExactNewDeskWrong)

/-- 'laws.FnExactFarBeams': WHATEVER THE INPUT: true; the input reads as it did. -/
def fnExactFarBeamsSpec : ChangeSpec := { name := "fnExactFarBeams", fn := fun _ => fun
  | [d1, d2] => { results := [.lit (.bool true)], args := [d1, d2] }
  | _ => none }
def fnExactFarBeamsRow : OpenClaim := { program := "ytbakaopgdcojfaa", sum := "77570cdcb18ddf3983c168aceb4ce95c053884e195c4298f2daf2ce270f7b455", func := "loop.example/g01181/laws.FnExactFarBeams", spec := "fnExactFarBeams", unfollowed := true, recurses := true, apart := false }
def FnExactFarBeamsSaid : Prop := fnExactFarBeamsRow.holds Try.pinned (OpenSpec.ofChange fnExactFarBeamsSpec)

/-- ITS FALSE NEIGHBOUR: 'it returns false'. Refute it at one input. -/
def fnExactFarBeamsWrong : ChangeSpec := { name := "fnExactFarBeams", fn := fun _ => fun
  | [d1, d2] => { results := [.lit (.bool false)], args := [d1, d2] }
  | _ => none }
def FnExactFarBeamsWrongFalsely : Prop := fnExactFarBeamsRow.holds Try.pinned (OpenSpec.ofChange fnExactFarBeamsWrong)

/-- 'laws.FnExactFrameAt': WHATEVER THE INPUT: true; the input reads as it did. -/
def fnExactFrameAtSpec : ChangeSpec := { name := "fnExactFrameAt", fn := fun _ => fun
  | [d1, d2] => { results := [.lit (.bool true)], args := [d1, d2] }
  | _ => none }
def fnExactFrameAtRow : OpenClaim := { program := "ytbakaopgdcojfaa", sum := "77570cdcb18ddf3983c168aceb4ce95c053884e195c4298f2daf2ce270f7b455", func := "loop.example/g01181/laws.FnExactFrameAt", spec := "fnExactFrameAt", inPlace := ["math.Float32frombits", "math.Float32bits"], apart := false }
def FnExactFrameAtSaid : Prop := fnExactFrameAtRow.holds Try.pinned (OpenSpec.ofChange fnExactFrameAtSpec)

/-- ITS FALSE NEIGHBOUR: 'it returns false'. Refute it at one input. -/
def fnExactFrameAtWrong : ChangeSpec := { name := "fnExactFrameAt", fn := fun _ => fun
  | [d1, d2] => { results := [.lit (.bool false)], args := [d1, d2] }
  | _ => none }
def FnExactFrameAtWrongFalsely : Prop := fnExactFrameAtRow.holds Try.pinned (OpenSpec.ofChange fnExactFrameAtWrong)

/-- 'laws.FnExactPlanBeams': WHATEVER THE INPUT: true; the input reads as it did. -/
def fnExactPlanBeamsSpec : ChangeSpec := { name := "fnExactPlanBeams", fn := fun _ => fun
  | [d1, d2] => { results := [.lit (.bool true)], args := [d1, d2] }
  | _ => none }
def fnExactPlanBeamsRow : OpenClaim := { program := "ytbakaopgdcojfaa", sum := "77570cdcb18ddf3983c168aceb4ce95c053884e195c4298f2daf2ce270f7b455", func := "loop.example/g01181/laws.FnExactPlanBeams", spec := "fnExactPlanBeams", unfollowed := true, recurses := true, apart := false }
def FnExactPlanBeamsSaid : Prop := fnExactPlanBeamsRow.holds Try.pinned (OpenSpec.ofChange fnExactPlanBeamsSpec)

/-- ITS FALSE NEIGHBOUR: 'it returns false'. Refute it at one input. -/
def fnExactPlanBeamsWrong : ChangeSpec := { name := "fnExactPlanBeams", fn := fun _ => fun
  | [d1, d2] => { results := [.lit (.bool false)], args := [d1, d2] }
  | _ => none }
def FnExactPlanBeamsWrongFalsely : Prop := fnExactPlanBeamsRow.holds Try.pinned (OpenSpec.ofChange fnExactPlanBeamsWrong)

/-- 'laws.FnExactLatenessOf': WHATEVER THE INPUT: true; the input reads as it did. -/
def fnExactLatenessOfSpec : ChangeSpec := { name := "fnExactLatenessOf", fn := fun _ => fun
  | [d1, d2] => { results := [.lit (.bool true)], args := [d1, d2] }
  | _ => none }
def fnExactLatenessOfRow : OpenClaim := { program := "ytbakaopgdcojfaa", sum := "77570cdcb18ddf3983c168aceb4ce95c053884e195c4298f2daf2ce270f7b455", func := "loop.example/g01181/laws.FnExactLatenessOf", spec := "fnExactLatenessOf", apart := false }
def FnExactLatenessOfSaid : Prop := fnExactLatenessOfRow.holds Try.pinned (OpenSpec.ofChange fnExactLatenessOfSpec)

/-- ITS FALSE NEIGHBOUR: 'it returns false'. Refute it at one input. -/
def fnExactLatenessOfWrong : ChangeSpec := { name := "fnExactLatenessOf", fn := fun _ => fun
  | [d1, d2] => { results := [.lit (.bool false)], args := [d1, d2] }
  | _ => none }
def FnExactLatenessOfWrongFalsely : Prop := fnExactLatenessOfRow.holds Try.pinned (OpenSpec.ofChange fnExactLatenessOfWrong)

/-- 'laws.FnExactMissedOf': WHATEVER THE INPUT: true; the input reads as it did. -/
def fnExactMissedOfSpec : ChangeSpec := { name := "fnExactMissedOf", fn := fun _ => fun
  | [d1, d2, d3] => { results := [.lit (.bool true)], args := [d1, d2, d3] }
  | _ => none }
def fnExactMissedOfRow : OpenClaim := { program := "ytbakaopgdcojfaa", sum := "77570cdcb18ddf3983c168aceb4ce95c053884e195c4298f2daf2ce270f7b455", func := "loop.example/g01181/laws.FnExactMissedOf", spec := "fnExactMissedOf", apart := false }
def FnExactMissedOfSaid : Prop := fnExactMissedOfRow.holds Try.pinned (OpenSpec.ofChange fnExactMissedOfSpec)

/-- ITS FALSE NEIGHBOUR: 'it returns false'. Refute it at one input. -/
def fnExactMissedOfWrong : ChangeSpec := { name := "fnExactMissedOf", fn := fun _ => fun
  | [d1, d2, d3] => { results := [.lit (.bool false)], args := [d1, d2, d3] }
  | _ => none }
def FnExactMissedOfWrongFalsely : Prop := fnExactMissedOfRow.holds Try.pinned (OpenSpec.ofChange fnExactMissedOfWrong)

/-- 'laws.FnExactRecoverRecord': WHATEVER THE INPUT: true; the input reads as it did. -/
def fnExactRecoverRecordSpec : ChangeSpec := { name := "fnExactRecoverRecord", fn := fun _ => fun
  | [d] => { results := [.lit (.bool true)], args := [d] }
  | _ => none }
def fnExactRecoverRecordRow : OpenClaim := { program := "ytbakaopgdcojfaa", sum := "77570cdcb18ddf3983c168aceb4ce95c053884e195c4298f2daf2ce270f7b455", func := "loop.example/g01181/laws.FnExactRecoverRecord", spec := "fnExactRecoverRecord", inPlace := ["math.Float32frombits", "math.Float32bits"], apart := false }
def FnExactRecoverRecordSaid : Prop := fnExactRecoverRecordRow.holds Try.pinned (OpenSpec.ofChange fnExactRecoverRecordSpec)

/-- ITS FALSE NEIGHBOUR: 'it returns false'. Refute it at one input. -/
def fnExactRecoverRecordWrong : ChangeSpec := { name := "fnExactRecoverRecord", fn := fun _ => fun
  | [d] => { results := [.lit (.bool false)], args := [d] }
  | _ => none }
def FnExactRecoverRecordWrongFalsely : Prop := fnExactRecoverRecordRow.holds Try.pinned (OpenSpec.ofChange fnExactRecoverRecordWrong)

/-- 'laws.FnExactLoadRecord': WHATEVER THE INPUT: true; the input reads as it did. -/
def fnExactLoadRecordSpec : ChangeSpec := { name := "fnExactLoadRecord", fn := fun _ => fun
  | [d] => { results := [.lit (.bool true)], args := [d] }
  | _ => none }
def fnExactLoadRecordRow : OpenClaim := { program := "ytbakaopgdcojfaa", sum := "77570cdcb18ddf3983c168aceb4ce95c053884e195c4298f2daf2ce270f7b455", func := "loop.example/g01181/laws.FnExactLoadRecord", spec := "fnExactLoadRecord", inPlace := ["math.Float32frombits", "math.Float32bits"], apart := false }
def FnExactLoadRecordSaid : Prop := fnExactLoadRecordRow.holds Try.pinned (OpenSpec.ofChange fnExactLoadRecordSpec)

/-- ITS FALSE NEIGHBOUR: 'it returns false'. Refute it at one input. -/
def fnExactLoadRecordWrong : ChangeSpec := { name := "fnExactLoadRecord", fn := fun _ => fun
  | [d] => { results := [.lit (.bool false)], args := [d] }
  | _ => none }
def FnExactLoadRecordWrongFalsely : Prop := fnExactLoadRecordRow.holds Try.pinned (OpenSpec.ofChange fnExactLoadRecordWrong)

/- THE SECOND FORM. 'bulk': how many values and letters a reading holds, each counted each time it is reached (what is shared counts as often as it is met; a slice's spare places count too). A statement '..UptoSaid' is the law's where the arguments, and the package variables that the reading takes, are together of bulk at most 1048576: NARROWER than '..Said'. Prove '..Said' where nothing that the law and all that it calls make is longer than what came in: it says more and counts as full. Else prove '..UptoSaid'. A law counts once. -/
mutual
def uptoBulk {H : Type} : DataW H → Nat
  | .lit (.string bytes) => bytes.length + 1
  | .lit _ => 1
  | .nil => 1
  | .ptr d => uptoBulk d + 1
  | .slice elems spare => uptoBulkAll elems + uptoBulkAll spare + 1
  | .agg parts => uptoBulkAll parts + 1
  | .iface _ d => uptoBulk d + 1
  | .map entries => uptoBulkEntries entries + 1
  | .held _ => 1
def uptoBulkAll {H : Type} : List (DataW H) → Nat
  | [] => 0
  | d :: r => uptoBulk d + uptoBulkAll r
def uptoBulkEntries {H : Type} : List (Lit × DataW H) → Nat
  | [] => 0
  | x :: r => uptoBulkEntry x + uptoBulkEntries r
def uptoBulkEntry {H : Type} : Lit × DataW H → Nat
  | (.string bytes, d) => bytes.length + uptoBulk d + 1
  | (_, d) => uptoBulk d + 1
 end
def uptoSmall : (H : Type) → List (DataW H) → Bool := fun _ ds => decide (uptoBulkAll ds ≤ 1048576)
def OpenSpec.upto (s : _root_.Go.ChangeSpec) : _root_.Go.OpenSpec := { _root_.Go.OpenSpec.ofChange s with cond := some uptoSmall }

/-- 'laws.FnExactFrameSize', WHERE WHAT IT READS IS OF BULK AT MOST 1048576: true; the input reads as it did. -/
def fnExactFrameSizeUptoRow : OpenClaim := { program := "ytbakaopgdcojfaa", sum := "77570cdcb18ddf3983c168aceb4ce95c053884e195c4298f2daf2ce270f7b455", func := "loop.example/g01181/laws.FnExactFrameSize", spec := "fnExactFrameSize", apart := false, narrowed := true }
def FnExactFrameSizeUptoSaid : Prop := fnExactFrameSizeUptoRow.holds Try.pinned (OpenSpec.upto fnExactFrameSizeSpec)

/-- 'laws.FnExactFirstDifference', WHERE WHAT IT READS IS OF BULK AT MOST 1048576: true; the input reads as it did. -/
def fnExactFirstDifferenceUptoRow : OpenClaim := { program := "ytbakaopgdcojfaa", sum := "77570cdcb18ddf3983c168aceb4ce95c053884e195c4298f2daf2ce270f7b455", func := "loop.example/g01181/laws.FnExactFirstDifference", spec := "fnExactFirstDifference", apart := false, narrowed := true }
def FnExactFirstDifferenceUptoSaid : Prop := fnExactFirstDifferenceUptoRow.holds Try.pinned (OpenSpec.upto fnExactFirstDifferenceSpec)

/-- 'laws.FnExactNewDesk', WHERE WHAT IT READS IS OF BULK AT MOST 1048576: true; the input reads as it did. -/
def fnExactNewDeskUptoRow : OpenClaim := { program := "ytbakaopgdcojfaa", sum := "77570cdcb18ddf3983c168aceb4ce95c053884e195c4298f2daf2ce270f7b455", func := "loop.example/g01181/laws.FnExactNewDesk", spec := "fnExactNewDesk", apart := false, narrowed := true }
def FnExactNewDeskUptoSaid : Prop := fnExactNewDeskUptoRow.holds Try.pinned (OpenSpec.upto fnExactNewDeskSpec)

/-- 'laws.FnExactFarBeams', WHERE WHAT IT READS IS OF BULK AT MOST 1048576: true; the input reads as it did. -/
def fnExactFarBeamsUptoRow : OpenClaim := { program := "ytbakaopgdcojfaa", sum := "77570cdcb18ddf3983c168aceb4ce95c053884e195c4298f2daf2ce270f7b455", func := "loop.example/g01181/laws.FnExactFarBeams", spec := "fnExactFarBeams", unfollowed := true, recurses := true, apart := false, narrowed := true }
def FnExactFarBeamsUptoSaid : Prop := fnExactFarBeamsUptoRow.holds Try.pinned (OpenSpec.upto fnExactFarBeamsSpec)

/-- 'laws.FnExactFrameAt', WHERE WHAT IT READS IS OF BULK AT MOST 1048576: true; the input reads as it did. -/
def fnExactFrameAtUptoRow : OpenClaim := { program := "ytbakaopgdcojfaa", sum := "77570cdcb18ddf3983c168aceb4ce95c053884e195c4298f2daf2ce270f7b455", func := "loop.example/g01181/laws.FnExactFrameAt", spec := "fnExactFrameAt", inPlace := ["math.Float32frombits", "math.Float32bits"], apart := false, narrowed := true }
def FnExactFrameAtUptoSaid : Prop := fnExactFrameAtUptoRow.holds Try.pinned (OpenSpec.upto fnExactFrameAtSpec)

/-- 'laws.FnExactPlanBeams', WHERE WHAT IT READS IS OF BULK AT MOST 1048576: true; the input reads as it did. -/
def fnExactPlanBeamsUptoRow : OpenClaim := { program := "ytbakaopgdcojfaa", sum := "77570cdcb18ddf3983c168aceb4ce95c053884e195c4298f2daf2ce270f7b455", func := "loop.example/g01181/laws.FnExactPlanBeams", spec := "fnExactPlanBeams", unfollowed := true, recurses := true, apart := false, narrowed := true }
def FnExactPlanBeamsUptoSaid : Prop := fnExactPlanBeamsUptoRow.holds Try.pinned (OpenSpec.upto fnExactPlanBeamsSpec)

/-- 'laws.FnExactLatenessOf', WHERE WHAT IT READS IS OF BULK AT MOST 1048576: true; the input reads as it did. -/
def fnExactLatenessOfUptoRow : OpenClaim := { program := "ytbakaopgdcojfaa", sum := "77570cdcb18ddf3983c168aceb4ce95c053884e195c4298f2daf2ce270f7b455", func := "loop.example/g01181/laws.FnExactLatenessOf", spec := "fnExactLatenessOf", apart := false, narrowed := true }
def FnExactLatenessOfUptoSaid : Prop := fnExactLatenessOfUptoRow.holds Try.pinned (OpenSpec.upto fnExactLatenessOfSpec)

/-- 'laws.FnExactMissedOf', WHERE WHAT IT READS IS OF BULK AT MOST 1048576: true; the input reads as it did. -/
def fnExactMissedOfUptoRow : OpenClaim := { program := "ytbakaopgdcojfaa", sum := "77570cdcb18ddf3983c168aceb4ce95c053884e195c4298f2daf2ce270f7b455", func := "loop.example/g01181/laws.FnExactMissedOf", spec := "fnExactMissedOf", apart := false, narrowed := true }
def FnExactMissedOfUptoSaid : Prop := fnExactMissedOfUptoRow.holds Try.pinned (OpenSpec.upto fnExactMissedOfSpec)

/-- 'laws.FnExactRecoverRecord', WHERE WHAT IT READS IS OF BULK AT MOST 1048576: true; the input reads as it did. -/
def fnExactRecoverRecordUptoRow : OpenClaim := { program := "ytbakaopgdcojfaa", sum := "77570cdcb18ddf3983c168aceb4ce95c053884e195c4298f2daf2ce270f7b455", func := "loop.example/g01181/laws.FnExactRecoverRecord", spec := "fnExactRecoverRecord", inPlace := ["math.Float32frombits", "math.Float32bits"], apart := false, narrowed := true }
def FnExactRecoverRecordUptoSaid : Prop := fnExactRecoverRecordUptoRow.holds Try.pinned (OpenSpec.upto fnExactRecoverRecordSpec)

/-- 'laws.FnExactLoadRecord', WHERE WHAT IT READS IS OF BULK AT MOST 1048576: true; the input reads as it did. -/
def fnExactLoadRecordUptoRow : OpenClaim := { program := "ytbakaopgdcojfaa", sum := "77570cdcb18ddf3983c168aceb4ce95c053884e195c4298f2daf2ce270f7b455", func := "loop.example/g01181/laws.FnExactLoadRecord", spec := "fnExactLoadRecord", inPlace := ["math.Float32frombits", "math.Float32bits"], apart := false, narrowed := true }
def FnExactLoadRecordUptoSaid : Prop := fnExactLoadRecordUptoRow.holds Try.pinned (OpenSpec.upto fnExactLoadRecordSpec)

end Rows
end Go.Proofs.Ytbakaopgdcojfaa
