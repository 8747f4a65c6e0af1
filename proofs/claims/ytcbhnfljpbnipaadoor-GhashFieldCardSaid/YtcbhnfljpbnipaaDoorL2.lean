/- THE LAWS' WALKS: GhashMuls, GhashField: they return true at every input, whatever the world that holds the table. -/
import Derived.Test.YtcbhnfljpbnipaaDoorL1
namespace Go.Proofs.YtcbhnfljpbnipaaDoor
open Go.RowKit
attribute [local go_sem] setCell_drewN alloc_drewN
theorem mulS_comm (a b : ByteArray) : mulS b a = mulS a b := by
  unfold mulS
  by_cases h : a.size = 16 ∧ b.size = 16
  · rw [if_pos h, if_pos ⟨h.2, h.1⟩, gmul_comm]
  · rw [if_neg h, if_neg (fun h2 => h ⟨h2.2, h2.1⟩)]
theorem mulN_comm (a b : ByteArray) : mulN b a = mulN a b := by
  unfold mulN
  by_cases h : a.size = 16 ∧ b.size = 16
  · rw [if_pos h, if_pos ⟨h.2, h.1⟩]
  · rw [if_neg h, if_neg (fun h2 => h ⟨h2.2, h2.1⟩)]
theorem muls_t (w : World) (a b : ByteArray) (hF : FoldAt w) :
    Calls Tryd.prog 3 #[.string a, .string b] w fun e w' => e = .returned (.bool true) ∧ Below w.heap.size w w' := by
  have HF := Lib.hid hF
  clear hF
  have p0 := HF.out.pos
  go_enter Tryd.func3, Tryd.ntmps3
  go_wp2_with fail
  refine (wakes_t _ HF.out).mono ?_
  rintro e w1 ⟨rfl, hb1⟩
  have HF1 := Lib.hid (HF.out.below hb1 HF.out.pos)
  have HB1 := Lib.hid hb1; clear hb1
  go_wp2_with fail
  refine (mul_t _ a b HF1.out).mono ?_
  rintro e w2 ⟨rfl, hb2⟩
  have HF2 := Lib.hid (HF1.out.below hb2 HF1.out.pos)
  have HB2 := Lib.hid (HB1.out.trans (hb2.mono HB1.out.size)); clear hb2
  go_wp2_with fail
  refine (rmul_t _ a b).mono ?_
  rintro e w3 ⟨rfl, hb3⟩
  have HF3 := Lib.hid (HF2.out.below hb3 HF2.out.pos)
  have HB3 := Lib.hid (HB2.out.trans (hb3.mono HB2.out.size)); clear hb3
  go_wp2_with fail
  refine (mul_t _ b a HF3.out).mono ?_
  rintro e w4 ⟨rfl, hb4⟩
  have HB4 := Lib.hid (HB3.out.trans (hb4.mono HB3.out.size)); clear hb4
  rw [mulS_comm, mulN_comm]
  go_wp2_with fail
  go_ret
  exact ⟨rfl, HB4.out⟩
/-- the law's own xor -/
theorem lxor_t (w : World) (a b : ByteArray) (ha : a.size ≤ 140737488351232) (hb : b.size ≤ 140737488351232) :
    Calls Tryd.prog 11 #[.string a, .string b] w fun e w' => e = .returned (.string ⟨(xorL a b).toArray⟩) ∧ Below w.heap.size w w' := by
  go_enter Tryd.func11, Tryd.ntmps11
  go_wp2_with fail
  refine (xor_t _ a b ha hb).mono ?_
  rintro e w1 ⟨rfl, hb1⟩
  go_wp2_with fail
  go_ret
  exact ⟨rfl, hb1⟩
end Go.Proofs.YtcbhnfljpbnipaaDoor
