/- ModelWakes: the model's steps, reckoned by the kernel. -/
import Derived.Test.YtndldoamadmphaaWk
namespace Go.Proofs.Ytndldoamadmphaa.modelWakes
set_option maxRecDepth 1000000 in
theorem ok_18 : okK 18 = true := by decide +kernel
set_option maxRecDepth 1000000 in
theorem ok_19 : okK 19 = true := by decide +kernel
set_option maxRecDepth 1000000 in
theorem ok_20 : okK 20 = true := by decide +kernel
end Go.Proofs.Ytndldoamadmphaa.modelWakes
