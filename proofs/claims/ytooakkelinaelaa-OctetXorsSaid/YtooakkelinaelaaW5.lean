/- octet.Get and pyxisref01.Get. -/
import Derived.Test.YtooakkelinaelaaW2
import Derived.Test.YtooakkelinaelaaPs
import Derived.BigRegion
import Derived.BigQuiet
import Derived.Deep.QuietTactic
namespace Go.Proofs.Ytooakkelinaelaa
open Go.RowKit
/-- what the first k bytes tell -/
def gv (s : ByteArray) : Nat → Nat
  | 0 => 0
  | k + 1 => gv s k * 256 + (byteAt s k).toNat
theorem gv_lt (s : ByteArray) (k : Nat) : gv s k < 256 ^ k := by
  induction k with
  | zero => simp [gv]
  | succ k ih =>
    have := (byteAt s k).toNat_lt
    rw [gv, Nat.pow_succ]
    omega
theorem gv_lt8 (s : ByteArray) (k : Nat) (hk : k ≤ 8) : gv s k < 18446744073709551616 :=
  Nat.lt_of_lt_of_le (gv_lt s k) (Nat.pow_le_pow_right (by decide) hk)
theorem or_low (x b : Nat) (hb : b < 256) : (x * 256 ||| b) = x * 256 + b := by
  have := Nat.shiftLeft_add_eq_or_of_lt (i := 8) (b := b) (by simpa using hb) x
  rw [Nat.shiftLeft_eq] at this
  exact this.symm
theorem get_step (s : ByteArray) (k : Nat) (hk : k < 8) : bits .or .u64 (IntKind.u64.wrap ((gv s k : Int) * 256)) (((byteAt s k).toNat : Nat) : Int) = ((gv s (k + 1) : Nat) : Int) := by
  have h1 := (byteAt s k).toNat_lt
  have h2 := gv_lt8 s (k + 1) (by omega)
  have h3 : gv s (k + 1) = gv s k * 256 + (byteAt s k).toNat := rfl
  have h4 : IntKind.u64.wrap ((gv s k : Int) * 256) = ((gv s k * 256 : Nat) : Int) := by
    rw [IntKind.wrap_u64, Int.emod_eq_of_lt] <;> omega
  rw [h4, u64_or_nat _ _ (by omega) (by omega), or_low _ _ h1, ← h3]
theorem rget_step (s : ByteArray) (k : Nat) (hk : k < 8) : IntKind.u64.wrap (IntKind.u64.wrap ((gv s k : Int) * 256) + (((byteAt s k).toNat : Nat) : Int)) = ((gv s (k + 1) : Nat) : Int) := by
  have h1 := (byteAt s k).toNat_lt
  have h2 := gv_lt8 s (k + 1) (by omega)
  have h3 : gv s (k + 1) = gv s k * 256 + (byteAt s k).toNat := rfl
  have h4 : IntKind.u64.wrap ((gv s k : Int) * 256) = ((gv s k * 256 : Nat) : Int) := by
    rw [IntKind.wrap_u64, Int.emod_eq_of_lt] <;> omega
  rw [h4, IntKind.wrap_u64, Int.emod_eq_of_lt] <;> omega
attribute [local go_sem] setCell_drewN alloc_drewN b64_byte
def getN (s : ByteArray) : Nat := if 1 ≤ s.size ∧ s.size ≤ 8 then gv s s.size else 0
def getE (s : ByteArray) : Int := if 1 ≤ s.size ∧ s.size ≤ 8 then 0 else 6
theorem rget_t (w : World) (s : ByteArray) (hs : s.size ≤ 9223372036854775807) :
    Calls Try.prog 19 #[.string s] w fun e w' => e = .returned (.tuple #[.int .u64 (getN s : Nat), .int .i64 (getE s)]) ∧ Below w.heap.size w w' := by
  by_cases h1 : 1 ≤ s.size
  · by_cases h8 : s.size ≤ 8
    · have e1 : getN s = gv s s.size := by simp [getN, h1, h8]
      have e2 : getE s = 0 := by simp [getE, h1, h8]
      rw [e1, e2]
      have E1 := Lib.hid e1; have E2 := Lib.hid e2
      clear e1 e2
      go_enter Try.func19, Try.ntmps19
      go_wp2
      go_loopw [4, 5] (fun n i wr => ∃ k : Nat, k ≤ s.size ∧ i = .int .i64 k ∧ n = .int .u64 ((gv s k : Nat) : Int) ∧ ∃ q, wr = w.drewN q) (fun _ i _ => s.size - (intOf i).toNat)
      case atStart => exact ⟨0, by omega, rfl, rfl, 0, rfl⟩
      case round =>
        obtain ⟨k, hk, rfl, rfl, q, rfl⟩ := hrel
        by_cases hlt : k < s.size
        · have hst := rget_step s k (by omega)
          have HST := Lib.hid hst
          clear hst
          obtain ⟨u, hu⟩ : ∃ u, u = gv s k := ⟨_, rfl⟩
          rw [← hu] at HST ⊢
          have HU := Lib.hid hu
          clear hu
          go_wp2
          refine ⟨⟨k + 1, by omega, by go_num, ?_, _, rfl⟩, by simp [intOf]; omega⟩
          rw [byteAt_get s k hlt, HST.out]
        · obtain rfl : k = s.size := by omega
          go_wp2
          go_ret2
          exact ⟨rfl, below_drewN (Below.refl _ _) _⟩
    · have e1 : getN s = 0 := by simp [getN, h8]
      have e2 : getE s = 6 := by simp [getE, h8]
      rw [e1, e2]
      clear e1 e2
      go_enter Try.func19, Try.ntmps19
      go_wp2
      go_ret2
      exact ⟨rfl, Below.refl _ _⟩
  · have e1 : getN s = 0 := by simp [getN, h1]
    have e2 : getE s = 6 := by simp [getE, h1]
    rw [e1, e2]
    clear e1 e2
    go_enter Try.func19, Try.ntmps19
    go_wp2
    go_ret2
    exact ⟨rfl, Below.refl _ _⟩
theorem isEmpty_size (s : ByteArray) : s.toList.isEmpty = decide (s.size = 0) := by
  have h : s.data.toList.length = s.size := by simp
  rw [ByteArray.toList_eq, ← h]
  cases s.data.toList with
  | nil => rfl
  | cons a l => rfl
theorem get_t (w : World) (s : ByteArray) (hs : s.size ≤ 9223372036854775807) :
    Calls Try.prog 18 #[.string s] w fun e w' => e = .returned (.tuple #[.int .u64 (getN s : Nat), .int .i64 (getE s)]) ∧ Below w.heap.size w w' := by
  by_cases h1 : 1 ≤ s.size
  · have t0 : s.toList.isEmpty = false := by rw [isEmpty_size]; exact decide_eq_false (by omega)
    by_cases h8 : s.size ≤ 8
    · have e1 : getN s = gv s s.size := by simp [getN, h1, h8]
      have e2 : getE s = 0 := by simp [getE, h1, h8]
      rw [e1, e2]
      have E1 := Lib.hid e1; have E2 := Lib.hid e2
      clear e1 e2
      go_enter Try.func18, Try.ntmps18
      go_wp2
      go_loopw [4, 15] (fun n i wr => ∃ k : Nat, k ≤ s.size ∧ i = .int .i64 k ∧ n = .int .u64 ((gv s k : Nat) : Int) ∧ ∃ q, wr = w.drewN q) (fun _ i _ => s.size - (intOf i).toNat)
      case atStart => exact ⟨0, by omega, rfl, rfl, 0, rfl⟩
      case round =>
        obtain ⟨k, hk, rfl, rfl, q, rfl⟩ := hrel
        by_cases hlt : k < s.size
        · have hst := get_step s k (by omega)
          have HST := Lib.hid hst
          clear hst
          obtain ⟨u, hu⟩ : ∃ u, u = gv s k := ⟨_, rfl⟩
          rw [← hu] at HST ⊢
          have HU := Lib.hid hu
          clear hu
          go_wp2
          refine ⟨⟨k + 1, by omega, by go_num, ?_, _, rfl⟩, by simp [intOf]; omega⟩
          rw [byteAt_get s k hlt, HST.out]
        · obtain rfl : k = s.size := by omega
          go_wp2
          go_ret2
          exact ⟨rfl, below_drewN (Below.refl _ _) _⟩
    · have e1 : getN s = 0 := by simp [getN, h8]
      have e2 : getE s = 6 := by simp [getE, h8]
      rw [e1, e2]
      clear e1 e2
      go_enter Try.func18, Try.ntmps18
      go_wp2
      go_ret2
      exact ⟨rfl, Below.refl _ _⟩
  · have e1 : getN s = 0 := by simp [getN, h1]
    have e2 : getE s = 6 := by simp [getE, h1]
    have t0 : s.toList.isEmpty = true := by rw [isEmpty_size]; exact decide_eq_true (by omega)
    rw [e1, e2]
    clear e1 e2
    go_enter Try.func18, Try.ntmps18
    go_wp2
    go_ret2
    exact ⟨rfl, Below.refl _ _⟩
end Go.Proofs.Ytooakkelinaelaa
