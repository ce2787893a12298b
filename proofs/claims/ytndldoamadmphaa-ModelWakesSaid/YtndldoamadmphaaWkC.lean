/- ModelWakes: the model's steps, reckoned by the kernel. -/
import Derived.Test.YtndldoamadmphaaWk
namespace Go.Proofs.Ytndldoamadmphaa.modelWakes
set_option maxRecDepth 1000000 in
theorem ok_15 : okK 15 = true := by decide +kernel
set_option maxRecDepth 1000000 in
theorem ok_16 : okK 16 = true := by decide +kernel
set_option maxRecDepth 1000000 in
theorem ok_17 : okK 17 = true := by decide +kernel
end Go.Proofs.Ytndldoamadmphaa.modelWakes
