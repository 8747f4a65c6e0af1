/- octet.Same and pyxisref01.Same. -/
import Derived.Test.YtooakkelinaelaaW2
import Derived.Test.YtooakkelinaelaaPs
import Derived.BigRegion
import Derived.BigQuiet
import Derived.Deep.QuietTactic
namespace Go.Proofs.Ytooakkelinaelaa
open Go.RowKit
attribute [local go_sem] setCell_drewN alloc_drewN byte_xor
theorem rsame_t (w : World) (a b : ByteArray) :
    Calls Try.prog 15 #[.string a, .string b] w fun e w' => e = .returned (.bool (a.toList == b.toList)) ∧ w = w' := by
  go_enter Try.func15, Try.ntmps15
  go_wp2
  go_ret
  exact ⟨rfl, rfl⟩
/-- what was unlike among the first k bytes -/
def unl (a b : ByteArray) : Nat → UInt8
  | 0 => 0
  | k + 1 => unl a b k ||| (byteAt a k ^^^ byteAt b k)
theorem byte_or (x y : UInt8) : bits .or .u8 ((x.toNat : Nat) : Int) ((y.toNat : Nat) : Int) = (((x ||| y).toNat : Nat) : Int) := by
  rw [u8_or_nat _ _ x.toNat_lt y.toNat_lt, UInt8.toNat_or]
theorem same_len (w : World) (a b : ByteArray) (h : ¬ a.size = b.size) :
    Calls Try.prog 14 #[.string a, .string b] w fun e w' => e = .returned (.bool false) ∧ Below w.heap.size w w' := by
  have t1 : ((a.size : Int) != (b.size : Int)) = true := by simp; omega
  clear h
  go_enter Try.func14, Try.ntmps14
  go_wp2
  go_ret
  exact ⟨rfl, Below.refl _ _⟩
set_option maxHeartbeats 400000 in
theorem same_eq (w : World) (a b : ByteArray) (h : a.size = b.size) (ha : a.size ≤ 9223372036854775807) :
    Calls Try.prog 14 #[.string a, .string b] w fun e w' => e = .returned (.bool (((unl a b a.size).toNat : Int) == 0)) ∧ Below w.heap.size w w' := by
  have t1 : ((a.size : Int) != (b.size : Int)) = false := by simp; omega
  have H := Lib.hid h
  clear h
  go_enter Try.func14, Try.ntmps14
  go_wp2
  go_loopw [5, 14] (fun u i wr => ∃ k : Nat, k ≤ a.size ∧ i = .int .i64 k ∧ u = .int .u8 ((unl a b k).toNat : Nat) ∧ ∃ q, wr = w.drewN q) (fun _ i _ => a.size - (intOf i).toNat)
  case atStart => exact ⟨0, by omega, rfl, rfl, 0, rfl⟩
  case round =>
    obtain ⟨k, hk, rfl, rfl, q, rfl⟩ := hrel
    by_cases hlt : k < a.size
    · have g2 : k < b.size := by have := H.out; omega
      have hst : (unl a b (k + 1)).toNat = (unl a b k).toNat ||| (byteAt a k ^^^ byteAt b k).toNat := by rw [unl, UInt8.toNat_or]
      obtain ⟨u, hu⟩ : ∃ u, u = unl a b k := ⟨_, rfl⟩
      rw [← hu] at hst ⊢
      have HST := Lib.hid hst; have HU := Lib.hid hu
      clear hst hu
      go_wp2
      go_quiet (fail)
      go_wp2
      refine ⟨⟨k + 1, by omega, by go_num, ?_, q + nq, rfl⟩, by simp [intOf]; omega⟩
      rw [← UInt8.toNat_xor, byteAt_get a k hlt, byteAt_get b k g2, byte_or, UInt8.toNat_or, HST.out]
    · obtain rfl : k = a.size := by omega
      go_wp2
      go_ret
      exact ⟨rfl, below_drewN (Below.refl _ _) _⟩
theorem unl_zero (a b : ByteArray) (k : Nat) : unl a b k = 0 ↔ ∀ i, i < k → byteAt a i = byteAt b i := by
  induction k with
  | zero => simp [unl]
  | succ k ih =>
    rw [unl, UInt8.or_eq_zero_iff, ih, UInt8.xor_eq_zero_iff]
    constructor
    · intro h i hi
      by_cases h2 : i = k
      · rw [h2]; exact h.2
      · exact h.1 i (by omega)
    · intro h
      exact ⟨fun i hi => h i (by omega), h k (by omega)⟩
theorem same_bool (a b : ByteArray) (h : a.size = b.size) : (((unl a b a.size).toNat : Int) == 0) = (a.toList == b.toList) := by
  rw [ByteArray.toList_eq, ByteArray.toList_eq, Bool.eq_iff_iff]
  simp only [beq_iff_eq]
  have h1 : (((unl a b a.size).toNat : Int) = 0) ↔ unl a b a.size = 0 := by
    rw [← UInt8.toNat_inj]
    show _ ↔ (unl a b a.size).toNat = 0
    omega
  rw [h1, unl_zero]
  constructor
  · intro hh
    rw [list_byteAt a, list_byteAt b, ← h]
    exact List.map_congr_left (fun i hi => hh i (by simpa using hi))
  · intro hh i _
    unfold byteAt; rw [hh]
/-- octet.Same -/
theorem same_t (w : World) (a b : ByteArray) (ha : a.size ≤ 9223372036854775807) :
    Calls Try.prog 14 #[.string a, .string b] w fun e w' => e = .returned (.bool (a.toList == b.toList)) ∧ Below w.heap.size w w' := by
  by_cases h : a.size = b.size
  · rw [← same_bool a b h]
    exact same_eq w a b h ha
  · have hf : (a.toList == b.toList) = false := by
      rw [ByteArray.toList_eq, ByteArray.toList_eq]
      apply Bool.eq_false_iff.2
      intro hh
      apply h
      have := congrArg List.length (beq_iff_eq.1 hh)
      simpa using this
    rw [hf]
    exact same_len w a b h
end Go.Proofs.Ytooakkelinaelaa
