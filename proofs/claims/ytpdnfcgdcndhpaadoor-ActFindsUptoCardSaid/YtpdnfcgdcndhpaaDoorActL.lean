/- awake: what it is told. -/
import Derived.Test.YtpdnfcgdcndhpaaDoorActM
set_option linter.unusedSimpArgs false
set_option linter.unusedVariables false
namespace Go.Proofs.YtpdnfcgdcndhpaaDoor
open Go.RowKit

theorem itoa_dig (n : Nat) (h : n < 10) : Lib.itoa (n : Int) = [UInt8.ofNat (48 + n)] := by
  unfold Lib.itoa
  rw [if_neg (by omega), Lib.decDigits, dif_pos (by omega)]
  rfl
theorem i0 : Lib.itoa 0 = [48] := itoa_dig 0 (by decide)
theorem i1 : Lib.itoa 1 = [49] := itoa_dig 1 (by decide)
theorem i2 : Lib.itoa 2 = [50] := itoa_dig 2 (by decide)
theorem i3 : Lib.itoa 3 = [51] := itoa_dig 3 (by decide)
theorem i5 : Lib.itoa 5 = [53] := itoa_dig 5 (by decide)
theorem i7 : Lib.itoa 7 = [55] := itoa_dig 7 (by decide)
theorem im1 : Lib.itoa (-1) = [45, 49] := by
  unfold Lib.itoa
  rw [if_pos (by omega), Lib.decDigits, dif_pos (by decide)]
  rfl
def aw1 : Str := [99, 97, 108, 108, 32, 49, 32, 119, 114, 105, 116, 101, 32, 48, 32, 53, 32, 97, 37, 50, 48, 98]
def ax1 : ActP := ⟨1, 1, 0, ⟨5, [], [], 0, 5, 0, [97, 32, 98]⟩, []⟩
def ax2 : ActP := ⟨5, 0, 3, CallP.new 0, [-1, 2]⟩
def aw2 : Str := [116, 105, 99, 107, 32, 51, 32, 45, 49, 32, 50]
def ax3 : ActP := ⟨7, 0, 0, CallP.new 0, []⟩
def aw3 : Str := [115, 116, 97, 114, 116, 32, 48, 32, 48]
def ax4 : ActP := ⟨3, 2, 0, CallP.new 0, []⟩
def aw4 : Str := [100, 114, 111, 112, 32, 50]
theorem w1 : writeP ax1 = [[99, 97, 108, 108], Lib.itoa 1, [119, 114, 105, 116, 101], Lib.itoa 0, Lib.itoa 5, [97, 37, 50, 48, 98]] := by kernel_rfl
theorem w2 : writeP ax2 = [[116, 105, 99, 107], Lib.itoa 3, Lib.itoa (-1), Lib.itoa 2] := by kernel_rfl
theorem w3 : writeP ax3 = [[115, 116, 97, 114, 116], Lib.itoa 0, Lib.itoa 0] := by kernel_rfl
theorem w4 : writeP ax4 = [[100, 114, 111, 112], Lib.itoa 2] := by kernel_rfl
theorem l1 : okP ax1 = true ∧ jnW (writeP ax1) = aw1 := by
  unfold okP
  rw [w1, i0, i1, i5]
  exact ⟨by decide +kernel, by decide +kernel⟩
theorem l2 : okP ax2 = true ∧ jnW (writeP ax2) = aw2 := by
  unfold okP
  rw [w2, i2, i3, im1]
  exact ⟨by decide +kernel, by decide +kernel⟩
theorem l3 : okP ax3 = true ∧ jnW (writeP ax3) = aw3 := by
  unfold okP
  rw [w3, i0]
  exact ⟨by decide +kernel, by decide +kernel⟩
theorem l4 : okP ax4 = true ∧ jnW (writeP ax4) = aw4 := by
  unfold okP
  rw [w4, i2]
  exact ⟨by decide +kernel, by decide +kernel⟩
theorem a1 : actOf aw1 = some ax1 := by
  have e : (actR (spW aw1)).1 = ax1 := by decide +kernel
  unfold actOf
  rw [e, if_pos l1]
theorem a3 : actOf aw3 = some ax3 := by
  have e : (actR (spW aw3)).1 = ax3 := by decide +kernel
  unfold actOf
  rw [e, if_pos l3]
theorem a4 : actOf aw4 = some ax4 := by
  have e : (actR (spW aw4)).1 = ax4 := by decide +kernel
  unfold actOf
  rw [e, if_pos l4]
theorem s34 : actsP (aw3 ++ 10 :: aw4) = ([ax3, ax4], 0, 0) := by
  have h1 : (Lib.cut (aw3 ++ 10 :: aw4) [10]) = (aw3, aw4, true) := by decide +kernel
  have h2 : (Lib.cut aw4 [10]) = (aw4, [], false) := by decide +kernel
  have l0 : (aw3 ++ 10 :: aw4).length + 1 = 14 + 1 + 1 + 1 := by decide
  unfold actsP
  rw [if_neg (by decide), l0, actsGo, if_neg (by decide), h1]
  simp only [a3]
  rw [actsGo, if_neg (by decide), h2]
  simp only [a4]
  rw [actsGo, if_pos rfl, if_neg (by decide)]
  rfl
def r7 : ResP := ⟨7, 0, 0, 0, [], []⟩
theorem rs7 : resP r7 = [55, 32, 48, 32, 48, 32, 48, 32, 37] := by
  unfold resP
  rw [show resW r7 = [Lib.itoa 7, Lib.itoa 0, Lib.itoa 0, Lib.itoa 0, [37]] by kernel_rfl, i7, i0]
  decide +kernel
end Go.Proofs.YtpdnfcgdcndhpaaDoor
