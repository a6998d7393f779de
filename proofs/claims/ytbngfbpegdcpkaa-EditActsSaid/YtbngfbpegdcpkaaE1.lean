/- The examples of layer 18 are as told. -/
import Derived.Test.YtbngfbpegdcpkaaA28
import Derived.Test.YtbngfbpegdcpkaaC1
namespace Go.Proofs.Ytbngfbpegdcpkaa
set_option linter.unusedVariables false
set_option linter.unusedSimpArgs false
set_option maxRecDepth 100000
theorem live18 : Pure Try.prog 11 [] (.bool true) := pure_run (RunC1.run_ok 1000 20) rfl (by kernel_rfl)
end Go.Proofs.Ytbngfbpegdcpkaa
