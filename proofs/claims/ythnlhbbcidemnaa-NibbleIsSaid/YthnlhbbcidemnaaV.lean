/- What the rows' proofs share. -/
import Derived.Test.YthnlhbbcidemnaaRows
import Derived.ProofKit
import Derived.OpenShut
import Derived.ShutString
import Derived.ChangeOld
namespace Go.Proofs.Ythnlhbbcidemnaa

theorem own_knob : ownKnob Try.prog.godebug = none := by kernel_rfl
theorem laid_out : laidOutB Try.prog = true := by kernel_rfl

end Go.Proofs.Ythnlhbbcidemnaa
