/-
  Layer 24: the laws LinearGood and LinearTurned (plain).
-/
import Derived.Test.YtcpabdpbldmmmaaGreatDoorLyTv
set_option linter.unusedVariables false
set_option linter.unusedSimpArgs false
namespace Go.Sx
open Go Go.Proofs
theorem intL_le {p : List Nat} {n : Nat} (h1 : p.Nodup) (h2 : ∀ x ∈ p, x < n) : (qG p).length ≤ n := by
 rw [jv]
 exact vc n p h1 h2
open Classical in
theorem qkz (w : World) (l : List Call) (o : List Int) : z0 w l o = some true := by
 unfold z0
 rw [qgz, qg, q7 (b := bnot true) rfl]
 obtain ⟨b, e, hb⟩ := qj6 w l 20 (by omega)
 rw [e, qg]
 cases b with
 | false => exact ct rfl rfl
 | true =>
   obtain ⟨h, hf, hl⟩ := hb rfl
   rw [q7 (b := bnot true) rfl]
   by_cases ho : (30 : Int) < (o.length : Int)
   ·rw [qm (by rw [ilen_eq]; exact ho)]
    rfl
   rw [qv (by rw [ilen_eq]; exact ho), z5 h hf (by omega) o (by omega), gt h hf (by omega) o (by omega), qg, qg]
   rw [q7 (b := bnot (beq' _ _)) (by simp)]
   by_cases h5 : (5 : Int) < (l.length : Int)
   ·rw [qm (by rw [ilen_eq]; exact h5)]
   rw [qv (by rw [ilen_eq]; exact h5)]
   obtain ⟨r, h1, h2, h3⟩ := KS h (l := l) (by omega) hf
   rw [h1, qg, h2, qg]
   cases r with
   | none => rfl
   | some p =>
     have hg := h3 p rfl
     have hp := intL_le hg.1.1 hg.1.2.1
     have e2 := gt h hf (by omega) (qG p) (by omega)
     rw [decide_eq_true (UE.2 hg)] at e2
     dsimp only
     refine ct rfl ?_
     rw [q7 (b := bnot true) rfl]
     exact ct rfl (ob e2 rfl)
theorem linearGood_ok : ∀ xs : Lf [.st .world, .sl (.st .call), .sl (.int .i64)], (∀ m, wfA m _ xs) → z0 xs.1 xs.2.1 xs.2.2.1 = some true := fun xs _ => qkz xs.1 xs.2.1 xs.2.2.1
end Go.Sx
