/-
  SY: functions that hand back a place in what they are handed.
-/
import Derived.Test.YtcpildkbkjeijaaGreatDoorSxBaseD
import Derived.Test.YtcpildkbkjeijaaGreatDoorProg
import Derived.WalkKit
import Derived.ProofKit
import Derived.Below
import Derived.KernelRfl
set_option linter.unusedVariables false
set_option linter.unusedSimpArgs false
namespace Go.Sx
open Go Go.Proofs
theorem get_who : FnOK Tryz.prog 92 ∧ GetOK Tryz.prog 92 4 := by
  refine ⟨⟨_, FnIn.mk Tryz.func92 (by kernel_rfl) (by kernel_rfl)⟩, fun w c off => ?_⟩
  go_enter Tryz.func92, Tryz.ntmps92
  go_wp2
  go_ret
  simp [blkA, add_lit]
theorem get_item : FnOK Tryz.prog 93 ∧ GetOK Tryz.prog 93 2 := by
  refine ⟨⟨_, FnIn.mk Tryz.func93 (by kernel_rfl) (by kernel_rfl)⟩, fun w c off => ?_⟩
  go_enter Tryz.func93, Tryz.ntmps93
  go_wp2
  go_ret
  simp [blkA, add_lit]
theorem get_box : FnOK Tryz.prog 95 ∧ GetOK Tryz.prog 95 3 := by
  refine ⟨⟨_, FnIn.mk Tryz.func95 (by kernel_rfl) (by kernel_rfl)⟩, fun w c off => ?_⟩
  go_enter Tryz.func95, Tryz.ntmps95
  go_wp2
  go_ret
  simp [blkA, add_lit]
theorem get_gives : FnOK Tryz.prog 97 ∧ GetOK Tryz.prog 97 5 := by
  refine ⟨⟨_, FnIn.mk Tryz.func97 (by kernel_rfl) (by kernel_rfl)⟩, fun w c off => ?_⟩
  go_enter Tryz.func97, Tryz.ntmps97
  go_wp2
  go_ret
  simp [blkA, add_lit]
theorem get_pay : FnOK Tryz.prog 98 ∧ GetOK Tryz.prog 98 6 := by
  refine ⟨⟨_, FnIn.mk Tryz.func98 (by kernel_rfl) (by kernel_rfl)⟩, fun w c off => ?_⟩
  go_enter Tryz.func98, Tryz.ntmps98
  go_wp2
  go_ret
  simp [blkA, add_lit]
theorem get_wants : FnOK Tryz.prog 99 ∧ GetOK Tryz.prog 99 7 := by
  refine ⟨⟨_, FnIn.mk Tryz.func99 (by kernel_rfl) (by kernel_rfl)⟩, fun w c off => ?_⟩
  go_enter Tryz.func99, Tryz.ntmps99
  go_wp2
  go_ret
  simp [blkA, add_lit]
theorem get_fee : FnOK Tryz.prog 100 ∧ GetOK Tryz.prog 100 8 := by
  refine ⟨⟨_, FnIn.mk Tryz.func100 (by kernel_rfl) (by kernel_rfl)⟩, fun w c off => ?_⟩
  go_enter Tryz.func100, Tryz.ntmps100
  go_wp2
  go_ret
  simp [blkA, add_lit]
theorem getsL : GetsOK Tryz.prog [(92, 4), (93, 2), (95, 3), (97, 5), (98, 6), (99, 7), (100, 8)] := .cons get_who (.cons get_item (.cons get_box (.cons get_gives (.cons get_pay (.cons get_wants (.cons get_fee .nil))))))
end Go.Sx
