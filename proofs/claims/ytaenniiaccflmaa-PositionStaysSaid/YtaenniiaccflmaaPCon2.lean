/- A part of the proof: PCon2. -/
import Derived.Test.YtaenniiaccflmaaPTrees2
import Derived.Test.YtaenniiaccflmaaVm31
set_option linter.unusedVariables false
set_option linter.unusedSimpArgs false
set_option linter.unnecessarySimpa false
set_option linter.unusedSectionVars false
namespace Go.Proofs.Ytaenniiaccflmaa
open Go Go.Vm Go.Proofs
theorem c11 : callE Try.prog NoPhi 11 [] = some (.bool true) := callE_some.2 ⟨2000, by kernel_rfl⟩
end Go.Proofs.Ytaenniiaccflmaa
