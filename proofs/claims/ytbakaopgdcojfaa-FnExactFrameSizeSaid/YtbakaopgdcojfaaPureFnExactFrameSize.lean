/- The law FnExactFrameSize, over numbers alone: for each 64-bit whole number both FrameSize functions, the program's and the reference's, tell the same size and the same success. No condition. -/
import Derived.Test.YtbakaopgdcojfaaPFnExactFrameSizex1
namespace Go.Proofs.Ytbakaopgdcojfaa.Pure
open Go.RowKit Go.Proofs.Ytbakaopgdcojfaa.PFnExactFrameSize Go.Proofs.YtbakaopgdcojfaaW.PrintWords Go.Proofs.YtbakaopgdcojfaaW.PrintLast

theorem FnExactFrameSize : laws_FnExactFrameSize.Pure := by
  intro a0 _
  unfold laws_FnExactFrameSize.f spec_FrameSize.f impl_FrameSize.f spec_l10Elements.f impl_isCount.f spec_l00In.f impl_within.f spec_l10Size.f
  by_cases h1 : a0 ≥ 1
  · by_cases h2 : a0 ≤ 16
    · have e : wrap64 (wrap64 (4 + wrap64 (8 * a0)) + 2) = wrap64 (6 + wrap64 (8 * a0)) := by unfold wrap64; omega
      simp [h1, h2, e]
    · simp [h1, h2]
  · simp [h1]

end Go.Proofs.Ytbakaopgdcojfaa.Pure
