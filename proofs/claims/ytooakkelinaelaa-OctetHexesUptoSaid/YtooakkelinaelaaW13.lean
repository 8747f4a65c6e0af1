/- pyxislaw01.wakes. -/
import Derived.Test.YtooakkelinaelaaW7
import Derived.Test.YtooakkelinaelaaW9
import Derived.Test.YtooakkelinaelaaW10
import Derived.Test.YtooakkelinaelaaW11
import Derived.Test.YtooakkelinaelaaW12
namespace Go.Proofs.Ytooakkelinaelaa
open Go.RowKit
attribute [local go_sem] setCell_drewN alloc_drewN
theorem wake_put : putS 258 2 = ⟨#[1, 2]⟩ ∧ putE 258 2 = 0 := by decide
theorem wake_xor : xorL ⟨#[97, 98]⟩ ⟨#[65]⟩ = [32] := by decide
theorem wake_hex : hx ⟨#[0, 171]⟩ (⟨#[0, 171]⟩ : ByteArray).size = [48, 48, 97, 98] := by decide
theorem wake_add : addS ⟨#[255, 255]⟩ 2 = ⟨#[0, 1]⟩ := by decide
set_option maxRecDepth 100000 in
set_option maxHeartbeats 400000 in
theorem wakes_t (W : World) :
    Calls Try.prog 10 #[] W fun e w' => e = .returned (.bool true) ∧ Below W.heap.size W w' := by
  go_enter Try.func10, Try.ntmps10
  go_wp2_with fail
  refine (put_t W 258 2).mono ?_
  rintro e w1 ⟨rfl, hb1⟩
  have HB1 := Lib.hid hb1; clear hb1
  rw [wake_put.1, wake_put.2]
  go_wp2_with fail
  refine (xor_t w1 _ _ (by decide)).mono ?_
  rintro e w2 ⟨rfl, hb2⟩
  have HB2 := Lib.hid (HB1.out.trans (hb2.mono HB1.out.size)); clear hb2
  rw [wake_xor]
  go_wp2_with fail
  refine (hex_t w2 _ (by decide)).mono ?_
  rintro e w3 ⟨rfl, hb3⟩
  have HB3 := Lib.hid (HB2.out.trans (hb3.mono HB2.out.size)); clear hb3
  rw [wake_hex]
  go_wp2_with fail
  refine (add_t w3 _ 2 (by decide) (by decide)).mono ?_
  rintro e w4 ⟨rfl, hb4⟩
  have HB4 := Lib.hid (HB3.out.trans (hb4.mono HB3.out.size)); clear hb4
  rw [wake_add]
  go_wp2_with fail
  go_ret
  exact ⟨rfl, HB4.out⟩
end Go.Proofs.Ytooakkelinaelaa
