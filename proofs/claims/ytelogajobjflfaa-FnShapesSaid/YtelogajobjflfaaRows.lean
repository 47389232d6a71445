/-
  No cell of these rows narrows 'for every input' (looked for: loops, veiled, ifaces, maps, wideKeys, modest, calm, conditions, laid).
  DERIVED. THE GIVEN ROWS OF THIS SEAT. 12 by the template 'for every input the law returns true; each argument reads behind the call as it read before'; 0 by the template 'total and deterministic' (their statements: YtelogajobjflfaaTotals.lean).
  GIVEN WITH THE SEED: the statements are not yours to turn. If you find one false, say at which input.
  Laid BY PROGRAM, IN A SANDBOX (cutbox-rows.mjs): the forced cells as the released guide's own fill.sh prints them over the translation 8d9c1e84cdf0aed1… (all of the seat's roots in one cut). By AI agents, Wed Nov 11 2026. No macro, syntax, notation, axiom, sorry.
-/
import Derived.Test.YtelogajobjflfaaChecked
import GoSem.Claim
import GoSem.ClaimJoined
import GoSem.ClaimMapViews
import Derived.JoinedTies
import Derived.KernelRfl
namespace Go.Proofs.Ytelogajobjflfaa
/- THE CELL 'sum', in the pinned program and in every row, IS THE sha256 OF THE DUMP (.gsa) THAT YtelogajobjflfaaProg.lean LOADS. Nothing in Lean hashes anything: it is a label: what it is worth is what the hold of that sum in a sandbox is worth. -/
noncomputable def Try.pinned : Pinned := { name := "ytelogajobjflfaa", sum := "8d9c1e84cdf0aed1391c14d1798767686ec46221300d15da8b0b12b21f83ecc9", checked := Try.checked }
namespace Rows
def none {H : Type} : Left H := { results := [], args := [] }

/-- 'laws.FnLobes': WHATEVER THE INPUT: true; the input reads as it did. -/
def fnLobesSpec : ChangeSpec := { name := "fnLobes", fn := fun _ => fun
  | [d1, d2] => { results := [.lit (.bool true)], args := [d1, d2] }
  | _ => none }
def fnLobesRow : OpenClaim := { program := "ytelogajobjflfaa", sum := "8d9c1e84cdf0aed1391c14d1798767686ec46221300d15da8b0b12b21f83ecc9", func := "loop.example/g01181/laws.FnLobes", spec := "fnLobes", unfollowed := true, recurses := true, leaving := true, apart := false }
def FnLobesSaid : Prop := fnLobesRow.holds Try.pinned (OpenSpec.ofChange fnLobesSpec)

/-- ITS FALSE NEIGHBOUR: 'it returns false'. Refute it at one input. -/
def fnLobesWrong : ChangeSpec := { name := "fnLobes", fn := fun _ => fun
  | [d1, d2] => { results := [.lit (.bool false)], args := [d1, d2] }
  | _ => none }
def FnLobesWrongFalsely : Prop := fnLobesRow.holds Try.pinned (OpenSpec.ofChange fnLobesWrong)

/-- 'laws.FnMatrices': WHATEVER THE INPUT: true; the input reads as it did. -/
def fnMatricesSpec : ChangeSpec := { name := "fnMatrices", fn := fun _ => fun
  | [d1, d2] => { results := [.lit (.bool true)], args := [d1, d2] }
  | _ => none }
def fnMatricesRow : OpenClaim := { program := "ytelogajobjflfaa", sum := "8d9c1e84cdf0aed1391c14d1798767686ec46221300d15da8b0b12b21f83ecc9", func := "loop.example/g01181/laws.FnMatrices", spec := "fnMatrices", inPlace := ["math.Float64bits"], unfollowed := true, recurses := true, leaving := true, apart := false }
def FnMatricesSaid : Prop := fnMatricesRow.holds Try.pinned (OpenSpec.ofChange fnMatricesSpec)

/-- ITS FALSE NEIGHBOUR: 'it returns false'. Refute it at one input. -/
def fnMatricesWrong : ChangeSpec := { name := "fnMatrices", fn := fun _ => fun
  | [d1, d2] => { results := [.lit (.bool false)], args := [d1, d2] }
  | _ => none }
def FnMatricesWrongFalsely : Prop := fnMatricesRow.holds Try.pinned (OpenSpec.ofChange fnMatricesWrong)

/-- 'laws.FnSky': WHATEVER THE INPUT: true; the input reads as it did. -/
def fnSkySpec : ChangeSpec := { name := "fnSky", fn := fun _ => fun
  | [d1, d2] => { results := [.lit (.bool true)], args := [d1, d2] }
  | _ => none }
def fnSkyRow : OpenClaim := { program := "ytelogajobjflfaa", sum := "8d9c1e84cdf0aed1391c14d1798767686ec46221300d15da8b0b12b21f83ecc9", func := "loop.example/g01181/laws.FnSky", spec := "fnSky", inPlace := ["math.Float64frombits", "math.Float64bits", "math.Float32bits"], unfollowed := true, recurses := true, leaving := true, apart := false }
def FnSkySaid : Prop := fnSkyRow.holds Try.pinned (OpenSpec.ofChange fnSkySpec)

/-- ITS FALSE NEIGHBOUR: 'it returns false'. Refute it at one input. -/
def fnSkyWrong : ChangeSpec := { name := "fnSky", fn := fun _ => fun
  | [d1, d2] => { results := [.lit (.bool false)], args := [d1, d2] }
  | _ => none }
def FnSkyWrongFalsely : Prop := fnSkyRow.holds Try.pinned (OpenSpec.ofChange fnSkyWrong)

/-- 'laws.FnKept': WHATEVER THE INPUT: true; the input reads as it did. -/
def fnKeptSpec : ChangeSpec := { name := "fnKept", fn := fun _ => fun
  | [d1, d2] => { results := [.lit (.bool true)], args := [d1, d2] }
  | _ => none }
def fnKeptRow : OpenClaim := { program := "ytelogajobjflfaa", sum := "8d9c1e84cdf0aed1391c14d1798767686ec46221300d15da8b0b12b21f83ecc9", func := "loop.example/g01181/laws.FnKept", spec := "fnKept", inPlace := ["math.Float32frombits", "internal/abi.NoEscape", "math.Float32bits", "math.Float64bits"], unfollowed := true, recurses := true, leaving := true, apart := false }
def FnKeptSaid : Prop := fnKeptRow.holds Try.pinned (OpenSpec.ofChange fnKeptSpec)

/-- ITS FALSE NEIGHBOUR: 'it returns false'. Refute it at one input. -/
def fnKeptWrong : ChangeSpec := { name := "fnKept", fn := fun _ => fun
  | [d1, d2] => { results := [.lit (.bool false)], args := [d1, d2] }
  | _ => none }
def FnKeptWrongFalsely : Prop := fnKeptRow.holds Try.pinned (OpenSpec.ofChange fnKeptWrong)

/-- 'laws.FnMerged': WHATEVER THE INPUT: true; the input reads as it did. -/
def fnMergedSpec : ChangeSpec := { name := "fnMerged", fn := fun _ => fun
  | [d1, d2] => { results := [.lit (.bool true)], args := [d1, d2] }
  | _ => none }
def fnMergedRow : OpenClaim := { program := "ytelogajobjflfaa", sum := "8d9c1e84cdf0aed1391c14d1798767686ec46221300d15da8b0b12b21f83ecc9", func := "loop.example/g01181/laws.FnMerged", spec := "fnMerged", inPlace := ["math.Float32frombits", "math.Float64bits"], unfollowed := true, recurses := true, leaving := true, apart := false }
def FnMergedSaid : Prop := fnMergedRow.holds Try.pinned (OpenSpec.ofChange fnMergedSpec)

/-- ITS FALSE NEIGHBOUR: 'it returns false'. Refute it at one input. -/
def fnMergedWrong : ChangeSpec := { name := "fnMerged", fn := fun _ => fun
  | [d1, d2] => { results := [.lit (.bool false)], args := [d1, d2] }
  | _ => none }
def FnMergedWrongFalsely : Prop := fnMergedRow.holds Try.pinned (OpenSpec.ofChange fnMergedWrong)

/-- 'laws.FnAdapted': WHATEVER THE INPUT: true; the input reads as it did. -/
def fnAdaptedSpec : ChangeSpec := { name := "fnAdapted", fn := fun _ => fun
  | [d1, d2] => { results := [.lit (.bool true)], args := [d1, d2] }
  | _ => none }
def fnAdaptedRow : OpenClaim := { program := "ytelogajobjflfaa", sum := "8d9c1e84cdf0aed1391c14d1798767686ec46221300d15da8b0b12b21f83ecc9", func := "loop.example/g01181/laws.FnAdapted", spec := "fnAdapted", inPlace := ["math.Float32frombits", "math.sqrt", "math.Float64bits"], unfollowed := true, recurses := true, leaving := true, apart := false }
def FnAdaptedSaid : Prop := fnAdaptedRow.holds Try.pinned (OpenSpec.ofChange fnAdaptedSpec)

/-- ITS FALSE NEIGHBOUR: 'it returns false'. Refute it at one input. -/
def fnAdaptedWrong : ChangeSpec := { name := "fnAdapted", fn := fun _ => fun
  | [d1, d2] => { results := [.lit (.bool false)], args := [d1, d2] }
  | _ => none }
def FnAdaptedWrongFalsely : Prop := fnAdaptedRow.holds Try.pinned (OpenSpec.ofChange fnAdaptedWrong)

/-- 'laws.FnSnapshots': WHATEVER THE INPUT: true; the input reads as it did. -/
def fnSnapshotsSpec : ChangeSpec := { name := "fnSnapshots", fn := fun _ => fun
  | [d1, d2] => { results := [.lit (.bool true)], args := [d1, d2] }
  | _ => none }
def fnSnapshotsRow : OpenClaim := { program := "ytelogajobjflfaa", sum := "8d9c1e84cdf0aed1391c14d1798767686ec46221300d15da8b0b12b21f83ecc9", func := "loop.example/g01181/laws.FnSnapshots", spec := "fnSnapshots", inPlace := ["math.Float64frombits", "math.Float64bits"], unfollowed := true, recurses := true, leaving := true, apart := false }
def FnSnapshotsSaid : Prop := fnSnapshotsRow.holds Try.pinned (OpenSpec.ofChange fnSnapshotsSpec)

/-- ITS FALSE NEIGHBOUR: 'it returns false'. Refute it at one input. -/
def fnSnapshotsWrong : ChangeSpec := { name := "fnSnapshots", fn := fun _ => fun
  | [d1, d2] => { results := [.lit (.bool false)], args := [d1, d2] }
  | _ => none }
def FnSnapshotsWrongFalsely : Prop := fnSnapshotsRow.holds Try.pinned (OpenSpec.ofChange fnSnapshotsWrong)

/-- 'laws.FnSmoothed': WHATEVER THE INPUT: true; the input reads as it did. -/
def fnSmoothedSpec : ChangeSpec := { name := "fnSmoothed", fn := fun _ => fun
  | [d1, d2] => { results := [.lit (.bool true)], args := [d1, d2] }
  | _ => none }
def fnSmoothedRow : OpenClaim := { program := "ytelogajobjflfaa", sum := "8d9c1e84cdf0aed1391c14d1798767686ec46221300d15da8b0b12b21f83ecc9", func := "loop.example/g01181/laws.FnSmoothed", spec := "fnSmoothed", inPlace := ["(*sync.WaitGroup).Go", "(*sync.WaitGroup).Add", "internal/race.ReleaseMerge", "internal/race.Disable", "internal/race.Enable", "internal/synctest.IsInBubble", "internal/synctest.Associate[sync.WaitGroup]", "sync.fatal", "sync/atomic.OrUint64", "sync/atomic.AddUint64", "internal/race.Read", "sync/atomic.LoadUint64", "sync/atomic.StoreUint64", "internal/synctest.Disassociate[sync.WaitGroup]", "sync.runtime_Semrelease", "(*sync.WaitGroup).Go$1", "(*sync.WaitGroup).Go$1$1", "(*sync.WaitGroup).Done", "(*sync.WaitGroup).Wait", "internal/race.Acquire", "internal/synctest.IsAssociated[sync.WaitGroup]", "sync/atomic.CompareAndSwapUint64", "internal/race.Write", "sync.runtime_SemacquireWaitGroup"], unfollowed := true, recurses := true, leaving := true, apart := false }
def FnSmoothedSaid : Prop := fnSmoothedRow.holds Try.pinned (OpenSpec.ofChange fnSmoothedSpec)

/-- ITS FALSE NEIGHBOUR: 'it returns false'. Refute it at one input. -/
def fnSmoothedWrong : ChangeSpec := { name := "fnSmoothed", fn := fun _ => fun
  | [d1, d2] => { results := [.lit (.bool false)], args := [d1, d2] }
  | _ => none }
def FnSmoothedWrongFalsely : Prop := fnSmoothedRow.holds Try.pinned (OpenSpec.ofChange fnSmoothedWrong)

/-- 'laws.FnCovariances': WHATEVER THE INPUT: true; the input reads as it did. -/
def fnCovariancesSpec : ChangeSpec := { name := "fnCovariances", fn := fun _ => fun
  | [d1, d2] => { results := [.lit (.bool true)], args := [d1, d2] }
  | _ => none }
def fnCovariancesRow : OpenClaim := { program := "ytelogajobjflfaa", sum := "8d9c1e84cdf0aed1391c14d1798767686ec46221300d15da8b0b12b21f83ecc9", func := "loop.example/g01181/laws.FnCovariances", spec := "fnCovariances", inPlace := ["math.Float32frombits", "(*sync.WaitGroup).Go", "(*sync.WaitGroup).Add", "internal/race.ReleaseMerge", "internal/race.Disable", "internal/race.Enable", "internal/synctest.IsInBubble", "internal/synctest.Associate[sync.WaitGroup]", "sync.fatal", "sync/atomic.OrUint64", "sync/atomic.AddUint64", "internal/race.Read", "sync/atomic.LoadUint64", "sync/atomic.StoreUint64", "internal/synctest.Disassociate[sync.WaitGroup]", "sync.runtime_Semrelease", "(*sync.WaitGroup).Go$1", "(*sync.WaitGroup).Go$1$1", "(*sync.WaitGroup).Done", "(*sync.WaitGroup).Wait", "internal/race.Acquire", "internal/synctest.IsAssociated[sync.WaitGroup]", "sync/atomic.CompareAndSwapUint64", "internal/race.Write", "sync.runtime_SemacquireWaitGroup", "math.Float64bits"], unfollowed := true, recurses := true, leaving := true, apart := false }
def FnCovariancesSaid : Prop := fnCovariancesRow.holds Try.pinned (OpenSpec.ofChange fnCovariancesSpec)

/-- ITS FALSE NEIGHBOUR: 'it returns false'. Refute it at one input. -/
def fnCovariancesWrong : ChangeSpec := { name := "fnCovariances", fn := fun _ => fun
  | [d1, d2] => { results := [.lit (.bool false)], args := [d1, d2] }
  | _ => none }
def FnCovariancesWrongFalsely : Prop := fnCovariancesRow.holds Try.pinned (OpenSpec.ofChange fnCovariancesWrong)

/-- 'laws.FnSteered': WHATEVER THE INPUT: true; the input reads as it did. -/
def fnSteeredSpec : ChangeSpec := { name := "fnSteered", fn := fun _ => fun
  | [d1, d2] => { results := [.lit (.bool true)], args := [d1, d2] }
  | _ => none }
def fnSteeredRow : OpenClaim := { program := "ytelogajobjflfaa", sum := "8d9c1e84cdf0aed1391c14d1798767686ec46221300d15da8b0b12b21f83ecc9", func := "loop.example/g01181/laws.FnSteered", spec := "fnSteered", inPlace := ["math.Float64frombits", "math.Float64bits", "math.sqrt"], apart := false }
def FnSteeredSaid : Prop := fnSteeredRow.holds Try.pinned (OpenSpec.ofChange fnSteeredSpec)

/-- ITS FALSE NEIGHBOUR: 'it returns false'. Refute it at one input. -/
def fnSteeredWrong : ChangeSpec := { name := "fnSteered", fn := fun _ => fun
  | [d1, d2] => { results := [.lit (.bool false)], args := [d1, d2] }
  | _ => none }
def FnSteeredWrongFalsely : Prop := fnSteeredRow.holds Try.pinned (OpenSpec.ofChange fnSteeredWrong)

/-- 'laws.FnShapes': WHATEVER THE INPUT: true; the input reads as it did. -/
def fnShapesSpec : ChangeSpec := { name := "fnShapes", fn := fun _ => fun
  | [d1, d2] => { results := [.lit (.bool true)], args := [d1, d2] }
  | _ => none }
def fnShapesRow : OpenClaim := { program := "ytelogajobjflfaa", sum := "8d9c1e84cdf0aed1391c14d1798767686ec46221300d15da8b0b12b21f83ecc9", func := "loop.example/g01181/laws.FnShapes", spec := "fnShapes", inPlace := ["math.Float64frombits", "math.Float64bits", "math.RoundToEven"], apart := false }
def FnShapesSaid : Prop := fnShapesRow.holds Try.pinned (OpenSpec.ofChange fnShapesSpec)

/-- ITS FALSE NEIGHBOUR: 'it returns false'. Refute it at one input. -/
def fnShapesWrong : ChangeSpec := { name := "fnShapes", fn := fun _ => fun
  | [d1, d2] => { results := [.lit (.bool false)], args := [d1, d2] }
  | _ => none }
def FnShapesWrongFalsely : Prop := fnShapesRow.holds Try.pinned (OpenSpec.ofChange fnShapesWrong)

/-- 'laws.FnTapers': WHATEVER THE INPUT: true; the input reads as it did. -/
def fnTapersSpec : ChangeSpec := { name := "fnTapers", fn := fun _ => fun
  | [d1, d2] => { results := [.lit (.bool true)], args := [d1, d2] }
  | _ => none }
def fnTapersRow : OpenClaim := { program := "ytelogajobjflfaa", sum := "8d9c1e84cdf0aed1391c14d1798767686ec46221300d15da8b0b12b21f83ecc9", func := "loop.example/g01181/laws.FnTapers", spec := "fnTapers", inPlace := ["math.Float64frombits", "math.Float64bits"], unfollowed := true, recurses := true, leaving := true, apart := false }
def FnTapersSaid : Prop := fnTapersRow.holds Try.pinned (OpenSpec.ofChange fnTapersSpec)

/-- ITS FALSE NEIGHBOUR: 'it returns false'. Refute it at one input. -/
def fnTapersWrong : ChangeSpec := { name := "fnTapers", fn := fun _ => fun
  | [d1, d2] => { results := [.lit (.bool false)], args := [d1, d2] }
  | _ => none }
def FnTapersWrongFalsely : Prop := fnTapersRow.holds Try.pinned (OpenSpec.ofChange fnTapersWrong)

/- THE SECOND FORM. 'bulk': how many values and letters a reading holds, each counted each time it is reached (what is shared counts as often as it is met; a slice's spare places count too). A statement '..UptoSaid' is the law's where the arguments, and the package variables that the reading takes, are together of bulk at most 1048576: NARROWER than '..Said'. Prove '..Said' where nothing that the law and all that it calls make is longer than what came in: it says more and counts as full. Else prove '..UptoSaid'. A law counts once. -/
mutual
def uptoBulk {H : Type} : DataW H → Nat
  | .lit (.string bytes) => bytes.length + 1
  | .lit _ => 1
  | .nil => 1
  | .ptr d => uptoBulk d + 1
  | .slice elems spare => uptoBulkAll elems + uptoBulkAll spare + 1
  | .agg parts => uptoBulkAll parts + 1
  | .iface _ d => uptoBulk d + 1
  | .map entries => uptoBulkEntries entries + 1
  | .held _ => 1
def uptoBulkAll {H : Type} : List (DataW H) → Nat
  | [] => 0
  | d :: r => uptoBulk d + uptoBulkAll r
def uptoBulkEntries {H : Type} : List (Lit × DataW H) → Nat
  | [] => 0
  | x :: r => uptoBulkEntry x + uptoBulkEntries r
def uptoBulkEntry {H : Type} : Lit × DataW H → Nat
  | (.string bytes, d) => bytes.length + uptoBulk d + 1
  | (_, d) => uptoBulk d + 1
 end
def uptoSmall : (H : Type) → List (DataW H) → Bool := fun _ ds => decide (uptoBulkAll ds ≤ 1048576)
def OpenSpec.upto (s : _root_.Go.ChangeSpec) : _root_.Go.OpenSpec := { _root_.Go.OpenSpec.ofChange s with cond := some uptoSmall }

/-- 'laws.FnLobes', WHERE WHAT IT READS IS OF BULK AT MOST 1048576: true; the input reads as it did. -/
def fnLobesUptoRow : OpenClaim := { program := "ytelogajobjflfaa", sum := "8d9c1e84cdf0aed1391c14d1798767686ec46221300d15da8b0b12b21f83ecc9", func := "loop.example/g01181/laws.FnLobes", spec := "fnLobes", unfollowed := true, recurses := true, leaving := true, apart := false, narrowed := true }
def FnLobesUptoSaid : Prop := fnLobesUptoRow.holds Try.pinned (OpenSpec.upto fnLobesSpec)

/-- 'laws.FnMatrices', WHERE WHAT IT READS IS OF BULK AT MOST 1048576: true; the input reads as it did. -/
def fnMatricesUptoRow : OpenClaim := { program := "ytelogajobjflfaa", sum := "8d9c1e84cdf0aed1391c14d1798767686ec46221300d15da8b0b12b21f83ecc9", func := "loop.example/g01181/laws.FnMatrices", spec := "fnMatrices", inPlace := ["math.Float64bits"], unfollowed := true, recurses := true, leaving := true, apart := false, narrowed := true }
def FnMatricesUptoSaid : Prop := fnMatricesUptoRow.holds Try.pinned (OpenSpec.upto fnMatricesSpec)

/-- 'laws.FnSky', WHERE WHAT IT READS IS OF BULK AT MOST 1048576: true; the input reads as it did. -/
def fnSkyUptoRow : OpenClaim := { program := "ytelogajobjflfaa", sum := "8d9c1e84cdf0aed1391c14d1798767686ec46221300d15da8b0b12b21f83ecc9", func := "loop.example/g01181/laws.FnSky", spec := "fnSky", inPlace := ["math.Float64frombits", "math.Float64bits", "math.Float32bits"], unfollowed := true, recurses := true, leaving := true, apart := false, narrowed := true }
def FnSkyUptoSaid : Prop := fnSkyUptoRow.holds Try.pinned (OpenSpec.upto fnSkySpec)

/-- 'laws.FnKept', WHERE WHAT IT READS IS OF BULK AT MOST 1048576: true; the input reads as it did. -/
def fnKeptUptoRow : OpenClaim := { program := "ytelogajobjflfaa", sum := "8d9c1e84cdf0aed1391c14d1798767686ec46221300d15da8b0b12b21f83ecc9", func := "loop.example/g01181/laws.FnKept", spec := "fnKept", inPlace := ["math.Float32frombits", "internal/abi.NoEscape", "math.Float32bits", "math.Float64bits"], unfollowed := true, recurses := true, leaving := true, apart := false, narrowed := true }
def FnKeptUptoSaid : Prop := fnKeptUptoRow.holds Try.pinned (OpenSpec.upto fnKeptSpec)

/-- 'laws.FnMerged', WHERE WHAT IT READS IS OF BULK AT MOST 1048576: true; the input reads as it did. -/
def fnMergedUptoRow : OpenClaim := { program := "ytelogajobjflfaa", sum := "8d9c1e84cdf0aed1391c14d1798767686ec46221300d15da8b0b12b21f83ecc9", func := "loop.example/g01181/laws.FnMerged", spec := "fnMerged", inPlace := ["math.Float32frombits", "math.Float64bits"], unfollowed := true, recurses := true, leaving := true, apart := false, narrowed := true }
def FnMergedUptoSaid : Prop := fnMergedUptoRow.holds Try.pinned (OpenSpec.upto fnMergedSpec)

/-- 'laws.FnAdapted', WHERE WHAT IT READS IS OF BULK AT MOST 1048576: true; the input reads as it did. -/
def fnAdaptedUptoRow : OpenClaim := { program := "ytelogajobjflfaa", sum := "8d9c1e84cdf0aed1391c14d1798767686ec46221300d15da8b0b12b21f83ecc9", func := "loop.example/g01181/laws.FnAdapted", spec := "fnAdapted", inPlace := ["math.Float32frombits", "math.sqrt", "math.Float64bits"], unfollowed := true, recurses := true, leaving := true, apart := false, narrowed := true }
def FnAdaptedUptoSaid : Prop := fnAdaptedUptoRow.holds Try.pinned (OpenSpec.upto fnAdaptedSpec)

/-- 'laws.FnSnapshots', WHERE WHAT IT READS IS OF BULK AT MOST 1048576: true; the input reads as it did. -/
def fnSnapshotsUptoRow : OpenClaim := { program := "ytelogajobjflfaa", sum := "8d9c1e84cdf0aed1391c14d1798767686ec46221300d15da8b0b12b21f83ecc9", func := "loop.example/g01181/laws.FnSnapshots", spec := "fnSnapshots", inPlace := ["math.Float64frombits", "math.Float64bits"], unfollowed := true, recurses := true, leaving := true, apart := false, narrowed := true }
def FnSnapshotsUptoSaid : Prop := fnSnapshotsUptoRow.holds Try.pinned (OpenSpec.upto fnSnapshotsSpec)

/-- 'laws.FnSmoothed', WHERE WHAT IT READS IS OF BULK AT MOST 1048576: true; the input reads as it did. -/
def fnSmoothedUptoRow : OpenClaim := { program := "ytelogajobjflfaa", sum := "8d9c1e84cdf0aed1391c14d1798767686ec46221300d15da8b0b12b21f83ecc9", func := "loop.example/g01181/laws.FnSmoothed", spec := "fnSmoothed", inPlace := ["(*sync.WaitGroup).Go", "(*sync.WaitGroup).Add", "internal/race.ReleaseMerge", "internal/race.Disable", "internal/race.Enable", "internal/synctest.IsInBubble", "internal/synctest.Associate[sync.WaitGroup]", "sync.fatal", "sync/atomic.OrUint64", "sync/atomic.AddUint64", "internal/race.Read", "sync/atomic.LoadUint64", "sync/atomic.StoreUint64", "internal/synctest.Disassociate[sync.WaitGroup]", "sync.runtime_Semrelease", "(*sync.WaitGroup).Go$1", "(*sync.WaitGroup).Go$1$1", "(*sync.WaitGroup).Done", "(*sync.WaitGroup).Wait", "internal/race.Acquire", "internal/synctest.IsAssociated[sync.WaitGroup]", "sync/atomic.CompareAndSwapUint64", "internal/race.Write", "sync.runtime_SemacquireWaitGroup"], unfollowed := true, recurses := true, leaving := true, apart := false, narrowed := true }
def FnSmoothedUptoSaid : Prop := fnSmoothedUptoRow.holds Try.pinned (OpenSpec.upto fnSmoothedSpec)

/-- 'laws.FnCovariances', WHERE WHAT IT READS IS OF BULK AT MOST 1048576: true; the input reads as it did. -/
def fnCovariancesUptoRow : OpenClaim := { program := "ytelogajobjflfaa", sum := "8d9c1e84cdf0aed1391c14d1798767686ec46221300d15da8b0b12b21f83ecc9", func := "loop.example/g01181/laws.FnCovariances", spec := "fnCovariances", inPlace := ["math.Float32frombits", "(*sync.WaitGroup).Go", "(*sync.WaitGroup).Add", "internal/race.ReleaseMerge", "internal/race.Disable", "internal/race.Enable", "internal/synctest.IsInBubble", "internal/synctest.Associate[sync.WaitGroup]", "sync.fatal", "sync/atomic.OrUint64", "sync/atomic.AddUint64", "internal/race.Read", "sync/atomic.LoadUint64", "sync/atomic.StoreUint64", "internal/synctest.Disassociate[sync.WaitGroup]", "sync.runtime_Semrelease", "(*sync.WaitGroup).Go$1", "(*sync.WaitGroup).Go$1$1", "(*sync.WaitGroup).Done", "(*sync.WaitGroup).Wait", "internal/race.Acquire", "internal/synctest.IsAssociated[sync.WaitGroup]", "sync/atomic.CompareAndSwapUint64", "internal/race.Write", "sync.runtime_SemacquireWaitGroup", "math.Float64bits"], unfollowed := true, recurses := true, leaving := true, apart := false, narrowed := true }
def FnCovariancesUptoSaid : Prop := fnCovariancesUptoRow.holds Try.pinned (OpenSpec.upto fnCovariancesSpec)

/-- 'laws.FnSteered', WHERE WHAT IT READS IS OF BULK AT MOST 1048576: true; the input reads as it did. -/
def fnSteeredUptoRow : OpenClaim := { program := "ytelogajobjflfaa", sum := "8d9c1e84cdf0aed1391c14d1798767686ec46221300d15da8b0b12b21f83ecc9", func := "loop.example/g01181/laws.FnSteered", spec := "fnSteered", inPlace := ["math.Float64frombits", "math.Float64bits", "math.sqrt"], apart := false, narrowed := true }
def FnSteeredUptoSaid : Prop := fnSteeredUptoRow.holds Try.pinned (OpenSpec.upto fnSteeredSpec)

/-- 'laws.FnShapes', WHERE WHAT IT READS IS OF BULK AT MOST 1048576: true; the input reads as it did. -/
def fnShapesUptoRow : OpenClaim := { program := "ytelogajobjflfaa", sum := "8d9c1e84cdf0aed1391c14d1798767686ec46221300d15da8b0b12b21f83ecc9", func := "loop.example/g01181/laws.FnShapes", spec := "fnShapes", inPlace := ["math.Float64frombits", "math.Float64bits", "math.RoundToEven"], apart := false, narrowed := true }
def FnShapesUptoSaid : Prop := fnShapesUptoRow.holds Try.pinned (OpenSpec.upto fnShapesSpec)

/-- 'laws.FnTapers', WHERE WHAT IT READS IS OF BULK AT MOST 1048576: true; the input reads as it did. -/
def fnTapersUptoRow : OpenClaim := { program := "ytelogajobjflfaa", sum := "8d9c1e84cdf0aed1391c14d1798767686ec46221300d15da8b0b12b21f83ecc9", func := "loop.example/g01181/laws.FnTapers", spec := "fnTapers", inPlace := ["math.Float64frombits", "math.Float64bits"], unfollowed := true, recurses := true, leaving := true, apart := false, narrowed := true }
def FnTapersUptoSaid : Prop := fnTapersUptoRow.holds Try.pinned (OpenSpec.upto fnTapersSpec)

end Rows
end Go.Proofs.Ytelogajobjflfaa
