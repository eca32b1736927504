/- A part of the proof: PCon9. -/
import Derived.Test.YtaenniiaccflmaaPTrees7
set_option linter.unusedVariables false
set_option linter.unusedSimpArgs false
set_option linter.unnecessarySimpa false
set_option linter.unusedSectionVars false
namespace Go.Proofs.Ytaenniiaccflmaa
open Go Go.Vm Go.Proofs
theorem l3 (lo : ByteArray) (h1 : lo.size ≤ 9223372036854775807) (hi : ByteArray) (h2 : hi.size ≤ 9223372036854775807) : callE Try.prog NoPhi 3 [.str lo, .str hi] = some (.bool true) := by
  refine call_flat Try.f3 Try.func3 (by kernel_rfl) rfl ⟨_, e3 lo hi, ?_⟩
  simp +contextual [TW, LcQ, c11, c12, c13, c14, c15]
end Go.Proofs.Ytaenniiaccflmaa
