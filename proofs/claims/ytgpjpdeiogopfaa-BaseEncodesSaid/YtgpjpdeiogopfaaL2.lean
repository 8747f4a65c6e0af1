/- THE LAW BaseEncodes: it returns true. -/
import Derived.Test.YtgpjpdeiogopfaaL1
import Derived.Test.YtgpjpdeiogopfaaW6
namespace Go.Proofs.Ytgpjpdeiogopfaa
open Go.RowKit
attribute [local go_sem] setCell_drewN alloc_drewN
theorem encodes_t (W : World) (s : ByteArray) (hs : s.size ≤ 140737488351232) :
    Calls Try.prog 3 #[.string s] W fun e w' => e = .returned (.bool true) ∧ Below W.heap.size W w' := by
  by_cases hbig : 1048576 < s.size
  · have g1 : (1048576 : Int) < (s.size : Int) := by omega
    go_enter Try.func3, Try.ntmps3
    go_wp2_with fail
    refine (wakes_t W).mono ?_
    rintro x w1 ⟨rfl, hb1⟩
    have HB1 := Lib.hid hb1; clear hb1
    go_wp2_with fail
    go_ret
    exact ⟨rfl, HB1.out⟩
  · have g1 : (s.size : Int) ≤ 1048576 := by omega
    go_enter Try.func3, Try.ntmps3
    go_wp2_with fail
    refine (wakes_t W).mono ?_
    rintro x w1 ⟨rfl, hb1⟩
    have HB1 := Lib.hid hb1; clear hb1
    go_wp2_with fail
    refine (enc_t w1 s (by omega)).mono ?_
    rintro x w2 ⟨rfl, hb2⟩
    have HB2 := Lib.hid (HB1.out.trans (hb2.mono HB1.out.size)); clear hb2
    go_wp2_with fail
    refine (renc_t w2 s (by omega)).mono ?_
    rintro x w3 ⟨rfl, hb3⟩
    have HB3 := Lib.hid (HB2.out.trans (hb3.mono HB2.out.size)); clear hb3
    go_wp2_with fail
    go_ret
    exact ⟨rfl, HB3.out⟩
end Go.Proofs.Ytgpjpdeiogopfaa
