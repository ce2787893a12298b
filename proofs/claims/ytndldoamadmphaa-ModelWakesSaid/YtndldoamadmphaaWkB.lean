/- ModelWakes: the model's steps, reckoned by the kernel. -/
import Derived.Test.YtndldoamadmphaaWk
namespace Go.Proofs.Ytndldoamadmphaa.modelWakes
set_option maxRecDepth 1000000 in
theorem ok_12 : okK 12 = true := by decide +kernel
set_option maxRecDepth 1000000 in
theorem ok_13 : okK 13 = true := by decide +kernel
set_option maxRecDepth 1000000 in
theorem ok_14 : okK 14 = true := by decide +kernel
end Go.Proofs.Ytndldoamadmphaa.modelWakes
