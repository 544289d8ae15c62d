/-
  Layer 24: the laws LinearGood and LinearTurned (plain).
-/
import Derived.Test.YtcpabdpbldmmmaaGreatDoorLyTv
set_option linter.unusedVariables false
set_option linter.unusedSimpArgs false
namespace Go.Sx
open Go Go.Proofs
end Go.Sx
