/- The examples of layer 8 are as told. -/
import Derived.Test.YtoajcigegjhiaaaA28
import Derived.Test.YtoajcigegjhiaaaC1
namespace Go.Proofs.Ytoajcigegjhiaaa
set_option linter.unusedVariables false
set_option linter.unusedSimpArgs false
set_option maxRecDepth 100000
theorem live8 : Pure Try.prog 15 [] (.bool true) := pure_run (RunC1.run_ok 1000 20) rfl (by kernel_rfl)
end Go.Proofs.Ytoajcigegjhiaaa
