/-
  SY: functions that hand back a place in what they are handed.
-/
import Derived.Test.YtcpildkbkjeijaaDoorSxBaseD
import Derived.Test.YtcpildkbkjeijaaDoorProg
import Derived.WalkKit
import Derived.ProofKit
import Derived.Below
import Derived.KernelRfl
set_option linter.unusedVariables false
set_option linter.unusedSimpArgs false
namespace Go.Sx
open Go Go.Proofs
theorem get_who : FnOK Tryd.prog 71 ∧ GetOK Tryd.prog 71 4 := by
  refine ⟨⟨_, FnIn.mk Tryd.func71 (by kernel_rfl) (by kernel_rfl)⟩, fun w c off => ?_⟩
  go_enter Tryd.func71, Tryd.ntmps71
  go_wp2
  go_ret
  simp [blkA, add_lit]
theorem get_item : FnOK Tryd.prog 72 ∧ GetOK Tryd.prog 72 2 := by
  refine ⟨⟨_, FnIn.mk Tryd.func72 (by kernel_rfl) (by kernel_rfl)⟩, fun w c off => ?_⟩
  go_enter Tryd.func72, Tryd.ntmps72
  go_wp2
  go_ret
  simp [blkA, add_lit]
theorem get_box : FnOK Tryd.prog 74 ∧ GetOK Tryd.prog 74 3 := by
  refine ⟨⟨_, FnIn.mk Tryd.func74 (by kernel_rfl) (by kernel_rfl)⟩, fun w c off => ?_⟩
  go_enter Tryd.func74, Tryd.ntmps74
  go_wp2
  go_ret
  simp [blkA, add_lit]
theorem get_gives : FnOK Tryd.prog 76 ∧ GetOK Tryd.prog 76 5 := by
  refine ⟨⟨_, FnIn.mk Tryd.func76 (by kernel_rfl) (by kernel_rfl)⟩, fun w c off => ?_⟩
  go_enter Tryd.func76, Tryd.ntmps76
  go_wp2
  go_ret
  simp [blkA, add_lit]
theorem get_pay : FnOK Tryd.prog 77 ∧ GetOK Tryd.prog 77 6 := by
  refine ⟨⟨_, FnIn.mk Tryd.func77 (by kernel_rfl) (by kernel_rfl)⟩, fun w c off => ?_⟩
  go_enter Tryd.func77, Tryd.ntmps77
  go_wp2
  go_ret
  simp [blkA, add_lit]
theorem get_wants : FnOK Tryd.prog 78 ∧ GetOK Tryd.prog 78 7 := by
  refine ⟨⟨_, FnIn.mk Tryd.func78 (by kernel_rfl) (by kernel_rfl)⟩, fun w c off => ?_⟩
  go_enter Tryd.func78, Tryd.ntmps78
  go_wp2
  go_ret
  simp [blkA, add_lit]
theorem get_fee : FnOK Tryd.prog 79 ∧ GetOK Tryd.prog 79 8 := by
  refine ⟨⟨_, FnIn.mk Tryd.func79 (by kernel_rfl) (by kernel_rfl)⟩, fun w c off => ?_⟩
  go_enter Tryd.func79, Tryd.ntmps79
  go_wp2
  go_ret
  simp [blkA, add_lit]
theorem getsL : GetsOK Tryd.prog [(71, 4), (72, 2), (74, 3), (76, 5), (77, 6), (78, 7), (79, 8)] := .cons get_who (.cons get_item (.cons get_box (.cons get_gives (.cons get_pay (.cons get_wants (.cons get_fee .nil))))))
end Go.Sx
