/- THE CONTRACTS OF THE LAWS' OWN HELPERS: the reference's Mul, wakes, xor; Mul at every input. -/
import Derived.Test.YtcbhnfljpbnipaaDoorG5
import Derived.Test.YtcbhnfljpbnipaaDoorW5
namespace Go.Proofs.YtcbhnfljpbnipaaDoor
open Go.RowKit
attribute [local go_sem] setCell_drewN alloc_drewN
/-- what Mul answers -/
def mulS (a b : ByteArray) : ByteArray := if a.size = 16 ∧ b.size = 16 then stB (gmul (ldP a) (ldP b)) else ⟨#[]⟩
def mulN (a b : ByteArray) : Int := if a.size = 16 ∧ b.size = 16 then 0 else 6
theorem mul_t (w : World) (a b : ByteArray) (hF : FoldAt w) :
    Calls Tryd.prog 9 #[.string a, .string b] w fun e w' => e = .returned (.tuple #[.string (mulS a b), .int .i64 (mulN a b)]) ∧ Below w.heap.size w w' := by
  by_cases h : a.size = 16 ∧ b.size = 16
  · refine (mul_ok w a b h.1 h.2 hF).mono ?_
    rintro e w' ⟨rfl, hb⟩
    exact ⟨by rw [mulS, mulN, if_pos h, if_pos h], hb⟩
  · refine (mul_bad w a b h).mono ?_
    rintro e w' ⟨rfl, hb⟩
    exact ⟨by rw [mulS, mulN, if_neg h, if_neg h], hb⟩
theorem timesR_length (a b : List Bool) : (timesR a b).length = 128 := outTo_length _ _
theorem rmul_ok (w : World) (a b : ByteArray) (ha : a.size = 16) (hb : b.size = 16) :
    Calls Tryd.prog 10 #[.string a, .string b] w fun e w' => e = .returned (.tuple #[.string (stB (gmul (ldP a) (ldP b))), .int .i64 0]) ∧ Below w.heap.size w w' := by
  have t1 : ((a.size : Int) != 16) = false := by simp [ha]
  have t2 : ((b.size : Int) != 16) = false := by simp [hb]
  have HA := Lib.hid ha; have HB := Lib.hid hb
  clear ha hb
  go_enter Tryd.func10, Tryd.ntmps10
  go_wp2_with fail
  refine (of_t _ _ HA.out).mono ?_
  rintro e w1 ⟨rfl, hb1⟩
  have HB1 := Lib.hid hb1; clear hb1
  go_wp2_with fail
  refine (of_t _ _ HB.out).mono ?_
  rintro e w2 ⟨rfl, hb2⟩
  have HB2 := Lib.hid hb2; clear hb2
  go_wp2_with fail
  refine (timesR_t _ _ _ (ofTo_length _ _) (ofTo_length _ _)).mono ?_
  rintro e w3 ⟨rfl, hb3⟩
  have HB3 := Lib.hid hb3; clear hb3
  go_wp2_with fail
  refine (text_t _ (timesR (ofTo a 128) (ofTo b 128)) (timesR_length _ _)).mono ?_
  rintro e w4 ⟨rfl, hb4⟩
  have HB4 := Lib.hid hb4; clear hb4
  have HP := Lib.hid (product_text a b)
  rw [← HP.out]
  go_wp2_with fail
  go_ret2
  exact ⟨rfl, ((HB1.out.trans (HB2.out.mono HB1.out.size)).trans (HB3.out.mono (Nat.le_trans HB1.out.size HB2.out.size))).trans (HB4.out.mono (Nat.le_trans (Nat.le_trans HB1.out.size HB2.out.size) HB3.out.size))⟩
theorem rmul_bad (w : World) (a b : ByteArray) (h : ¬ (a.size = 16 ∧ b.size = 16)) :
    Calls Tryd.prog 10 #[.string a, .string b] w fun e w' => e = .returned (.tuple #[.string ⟨#[]⟩, .int .i64 6]) ∧ Below w.heap.size w w' := by
  by_cases ha : a.size = 16
  · have hb : ¬ b.size = 16 := fun hb => h ⟨ha, hb⟩
    have t1 : ((a.size : Int) != 16) = false := by simp [ha]
    have t2 : ((b.size : Int) != 16) = true := by simp; omega
    clear h ha hb
    go_enter Tryd.func10, Tryd.ntmps10
    go_wp2_with fail
    go_ret2
    exact ⟨rfl, Below.refl _ _⟩
  · have t1 : ((a.size : Int) != 16) = true := by simp; omega
    clear h ha
    go_enter Tryd.func10, Tryd.ntmps10
    go_wp2_with fail
    go_ret2
    exact ⟨rfl, Below.refl _ _⟩
theorem rmul_t (w : World) (a b : ByteArray) :
    Calls Tryd.prog 10 #[.string a, .string b] w fun e w' => e = .returned (.tuple #[.string (mulS a b), .int .i64 (mulN a b)]) ∧ Below w.heap.size w w' := by
  by_cases h : a.size = 16 ∧ b.size = 16
  · refine (rmul_ok w a b h.1 h.2).mono ?_
    rintro e w' ⟨rfl, hb⟩
    exact ⟨by rw [mulS, mulN, if_pos h, if_pos h], hb⟩
  · refine (rmul_bad w a b h).mono ?_
    rintro e w' ⟨rfl, hb⟩
    exact ⟨by rw [mulS, mulN, if_neg h, if_neg h], hb⟩
def wk1 : ByteArray := ⟨#[48, 49, 50, 51, 52, 53, 54, 55, 56, 57, 97, 98, 99, 100, 101, 102]⟩
def wkOne : ByteArray := ⟨#[128, 0, 0, 0, 0, 0, 0, 0, 0, 0, 0, 0, 0, 0, 0, 0]⟩
theorem one_E : toE (ldP wkOne) = e0 := by decide +kernel
theorem wk_mul : mulS wk1 wkOne = wk1 := by
  rw [mulS, if_pos ⟨by rfl, by rfl⟩]
  have h : gmul (ldP wk1) (ldP wkOne) = ldP wk1 := toE_inj (by rw [gmul_E, one_E, fmul_e0])
  rw [h, st_ld wk1 rfl]
theorem wakes_t (w : World) (hF : FoldAt w) : Calls Tryd.prog 8 #[] w fun e w' => e = .returned (.bool true) ∧ Below w.heap.size w w' := by
  have HF := Lib.hid hF
  clear hF
  go_enter Tryd.func8, Tryd.ntmps8
  go_wp2_with fail
  refine (mul_t _ wk1 wkOne HF.out).mono ?_
  rintro e w1 ⟨rfl, hb1⟩
  have HB1 := Lib.hid hb1; clear hb1
  rw [wk_mul]
  have : mulN wk1 wkOne = 0 := by rw [mulN, if_pos ⟨by rfl, by rfl⟩]
  rw [this]
  clear this
  unfold wk1
  go_wp2_with fail
  go_ret
  exact ⟨rfl, HB1.out⟩
end Go.Proofs.YtcbhnfljpbnipaaDoor
