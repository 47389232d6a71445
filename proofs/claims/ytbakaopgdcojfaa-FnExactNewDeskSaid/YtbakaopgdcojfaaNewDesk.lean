/- FnExactNewDesk on the abstract machine, run by the kernel. No condition. -/
import Derived.Test.YtbakaopgdcojfaaSimK0
import Derived.Test.YtbakaopgdcojfaaSimT
import Derived.Test.YtbakaopgdcojfaaSimR
namespace Go.Proofs.Ytbakaopgdcojfaa.Sim
open Go Go.RowKit
noncomputable def tabD : List (FuncId × Func) := [(5, Try.f5), (17, Try.f17), (62, Try.f62), (18, Try.f18), (19, Try.f19), (20, Try.f20), (21, Try.f21), (63, Try.f63), (64, Try.f64), (65, Try.f65), (66, Try.f66), (67, Try.f67), (68, Try.f68), (69, Try.f69), (70, Try.f70), (71, Try.f71), (100, Try.f100), (101, Try.f101), (117, Try.f117)]
theorem desk_runs : okT (callK Try.prog 0 (lookT tabD) 20 5 [] []) = true := by decide +kernel
theorem tabD_ok : AllOk Try.prog noX tabD := ⟨⟨rfl, Try.func5, by kernel_rfl⟩, ⟨rfl, Try.func17, by kernel_rfl⟩, ⟨rfl, Try.func62, by kernel_rfl⟩, ⟨rfl, Try.func18, by kernel_rfl⟩, ⟨rfl, Try.func19, by kernel_rfl⟩, ⟨rfl, Try.func20, by kernel_rfl⟩, ⟨rfl, Try.func21, by kernel_rfl⟩, ⟨rfl, Try.func63, by kernel_rfl⟩, ⟨rfl, Try.func64, by kernel_rfl⟩, ⟨rfl, Try.func65, by kernel_rfl⟩, ⟨rfl, Try.func66, by kernel_rfl⟩, ⟨rfl, Try.func67, by kernel_rfl⟩, ⟨rfl, Try.func68, by kernel_rfl⟩, ⟨rfl, Try.func69, by kernel_rfl⟩, ⟨rfl, Try.func70, by kernel_rfl⟩, ⟨rfl, Try.func71, by kernel_rfl⟩, ⟨rfl, Try.func100, by kernel_rfl⟩, ⟨rfl, Try.func101, by kernel_rfl⟩, ⟨rfl, Try.func117, by kernel_rfl⟩, trivial⟩
theorem lawDesk_c : ∃ h', Call Try.prog 0 noX 5 [] [] (.bool true) h' := by
  obtain ⟨h', hr⟩ := okT_iff desk_runs
  exact ⟨h', 20, callK_le (lookT_ok tabD_ok) 20 _ _ _ _ hr⟩
end Go.Proofs.Ytbakaopgdcojfaa.Sim
