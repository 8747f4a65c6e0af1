/- pyxisref01.Half, octet.Unhex. -/
import Derived.Test.YtooakkelinaelaaW12
import Derived.BigRegion
import Derived.Deep.OwnRows
namespace Go.Proofs.Ytooakkelinaelaa
open Go.RowKit
attribute [local go_sem] setCell_drewN alloc_drewN
/-- half a byte, of a sign; 16: it is none -/
def hv (c : UInt8) : Nat := if 48 ≤ c.toNat ∧ c.toNat ≤ 57 then c.toNat - 48 else if 97 ≤ c.toNat ∧ c.toNat ≤ 102 then c.toNat - 87 else 16
theorem hv_le (c : UInt8) : hv c ≤ 16 := by unfold hv; split <;> (try split) <;> omega
theorem half_t (c : UInt8) (w : World) :
    Calls Try.prog 27 #[.int .u8 ((c.toNat : Nat) : Int)] w fun e w' => e = .returned (.int .u8 ((hv c : Nat) : Int)) ∧ w' = w := by
  have hc := c.toNat_lt
  by_cases h1 : 48 ≤ c.toNat ∧ c.toNat ≤ 57
  · have t1 : ((hv c : Nat) : Int) = ((c.toNat : Nat) : Int) - 48 := by rw [hv, if_pos h1]; omega
    rw [t1]
    clear t1
    go_enter Try.func27, Try.ntmps27
    go_wp2
    go_ret
    exact ⟨rfl, rfl⟩
  · by_cases h2 : 97 ≤ c.toNat ∧ c.toNat ≤ 102
    · have t1 : ((hv c : Nat) : Int) = ((c.toNat : Nat) : Int) - 97 + 10 := by rw [hv, if_neg h1, if_pos h2]; omega
      rw [t1]
      clear t1 h1
      go_enter Try.func27, Try.ntmps27
      go_wp2
      go_ret
      exact ⟨rfl, rfl⟩
    · have t1 : ((hv c : Nat) : Int) = 16 := by rw [hv, if_neg h1, if_neg h2]; rfl
      rw [t1]
      clear t1
      have hc2 : c.toNat < 48 ∨ (57 < c.toNat ∧ c.toNat < 97) ∨ 102 < c.toNat := by omega
      clear h1 h2
      rcases hc2 with h | ⟨h, h'⟩ | h
      all_goals
        go_enter Try.func27, Try.ntmps27
        go_wp2
        go_ret
        exact ⟨rfl, rfl⟩
theorem index_hv (c : UInt8) : Lib.indexByte [48, 49, 50, 51, 52, 53, 54, 55, 56, 57, 97, 98, 99, 100, 101, 102] c = if hv c < 16 then ((hv c : Nat) : Int) else -1 := by
  have hall : ∀ n : Fin 256, Lib.indexByte [48, 49, 50, 51, 52, 53, 54, 55, 56, 57, 97, 98, 99, 100, 101, 102] (UInt8.ofNat n.val) = if hv (UInt8.ofNat n.val) < 16 then ((hv (UInt8.ofNat n.val) : Nat) : Int) else -1 := by decide +kernel
  have := hall ⟨c.toNat, c.toNat_lt⟩
  simpa using this
theorem index_t (c : UInt8) (w : World) :
    Calls Try.prog 26 #[.string ⟨#[48, 49, 50, 51, 52, 53, 54, 55, 56, 57, 97, 98, 99, 100, 101, 102]⟩, .int .u8 ((c.toNat : Nat) : Int)] w fun e w' => e = .returned (.int .i64 (if hv c < 16 then ((hv c : Nat) : Int) else -1)) ∧ w' = w := by
  have h := Try.strings_IndexByte ⟨#[48, 49, 50, 51, 52, 53, 54, 55, 56, 57, 97, 98, 99, 100, 101, 102]⟩ ((c.toNat : Nat) : Int) w
  have e1 : ((c.toNat : Nat) : Int).toNat.toUInt8 = c := by simp
  rw [e1] at h
  rw [← index_hv]
  exact h
end Go.Proofs.Ytooakkelinaelaa
