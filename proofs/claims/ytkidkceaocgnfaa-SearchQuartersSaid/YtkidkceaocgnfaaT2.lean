/- A part of the proof: T2. -/
import Derived.Test.YtkidkceaocgnfaaAm9
import Derived.Test.YtkidkceaocgnfaaProg
set_option linter.all false
namespace Go.Am
open Go.Proofs
theorem noNG : Fit Try.prog := noNG_of (by kernel_rfl) (by kernel_rfl)
end Go.Am
