/- ModelWakes: the model's steps, reckoned by the kernel. -/
import Derived.Test.YtndldoamadmphaaWk
namespace Go.Proofs.Ytndldoamadmphaa.modelWakes
set_option maxRecDepth 1000000 in
theorem ok_1 : okK 1 = true := by decide +kernel
set_option maxRecDepth 1000000 in
theorem ok_2 : okK 2 = true := by decide +kernel
set_option maxRecDepth 1000000 in
theorem ok_3 : okK 3 = true := by decide +kernel
set_option maxRecDepth 1000000 in
theorem ok_4 : okK 4 = true := by decide +kernel
set_option maxRecDepth 1000000 in
theorem ok_5 : okK 5 = true := by decide +kernel
set_option maxRecDepth 1000000 in
theorem ok_6 : okK 6 = true := by decide +kernel
set_option maxRecDepth 1000000 in
theorem ok_7 : okK 7 = true := by decide +kernel
set_option maxRecDepth 1000000 in
theorem ok_8 : okK 8 = true := by decide +kernel
set_option maxRecDepth 1000000 in
theorem ok_9 : okK 9 = true := by decide +kernel
set_option maxRecDepth 1000000 in
theorem ok_10 : okK 10 = true := by decide +kernel
set_option maxRecDepth 1000000 in
theorem ok_11 : okK 11 = true := by decide +kernel
end Go.Proofs.Ytndldoamadmphaa.modelWakes
