/- base.Decode. -/
import Derived.Test.YtgpjpdeiogopfaaW2
namespace Go.Proofs.Ytgpjpdeiogopfaa
open Go.RowKit
attribute [local go_sem] setCell_drewN alloc_drewN b64_byte
theorem info5 : (Try.prog.info? 5).map (fun i => (i.zero, i.size, i.bytes)) = some (some (.int .u8 0), 1, 1) := by kernel_rfl
theorem index_num (c : UInt8) : Lib.indexByte [65, 66, 67, 68, 69, 70, 71, 72, 73, 74, 75, 76, 77, 78, 79, 80, 81, 82, 83, 84, 85, 86, 87, 88, 89, 90, 97, 98, 99, 100, 101, 102, 103, 104, 105, 106, 107, 108, 109, 110, 111, 112, 113, 114, 115, 116, 117, 118, 119, 120, 121, 122, 48, 49, 50, 51, 52, 53, 54, 55, 56, 57, 45, 95] c = if num c < 64 then ((num c : Nat) : Int) else -1 := by
  have hall : ∀ n : Fin 256, Lib.indexByte [65, 66, 67, 68, 69, 70, 71, 72, 73, 74, 75, 76, 77, 78, 79, 80, 81, 82, 83, 84, 85, 86, 87, 88, 89, 90, 97, 98, 99, 100, 101, 102, 103, 104, 105, 106, 107, 108, 109, 110, 111, 112, 113, 114, 115, 116, 117, 118, 119, 120, 121, 122, 48, 49, 50, 51, 52, 53, 54, 55, 56, 57, 45, 95] (UInt8.ofNat n.val) = if num (UInt8.ofNat n.val) < 64 then ((num (UInt8.ofNat n.val) : Nat) : Int) else -1 := by decide +kernel
  have := hall ⟨c.toNat, c.toNat_lt⟩
  simpa using this
theorem index_t (c : UInt8) (w : World) :
    Calls Try.prog 15 #[.string ⟨#[65, 66, 67, 68, 69, 70, 71, 72, 73, 74, 75, 76, 77, 78, 79, 80, 81, 82, 83, 84, 85, 86, 87, 88, 89, 90, 97, 98, 99, 100, 101, 102, 103, 104, 105, 106, 107, 108, 109, 110, 111, 112, 113, 114, 115, 116, 117, 118, 119, 120, 121, 122, 48, 49, 50, 51, 52, 53, 54, 55, 56, 57, 45, 95]⟩, .int .u8 ((c.toNat : Nat) : Int)] w fun e w' => e = .returned (.int .i64 (if num c < 64 then ((num c : Nat) : Int) else -1)) ∧ w' = w := by
  have h := Try.strings_IndexByte signsA ((c.toNat : Nat) : Int) w
  have e1 : ((c.toNat : Nat) : Int).toNat.toUInt8 = c := by simp
  rw [e1] at h
  rw [← index_num]
  exact h
/-- the first j bytes -/
def de (s : ByteArray) (j : Nat) : List UInt8 := (List.range j).map fun j => UInt8.ofNat (vb (dbits s) (8 * j) 8)
theorem de_snoc (s : ByteArray) (j : Nat) : de s (j + 1) = de s j ++ [UInt8.ofNat (vb (dbits s) (8 * j) 8)] := by simp [de, List.range_succ]
theorem de_length (s : ByteArray) (j : Nat) : (de s j).length = j := by simp [de]
def firstBad (s : ByteArray) (k : Nat) : Prop := k < s.size ∧ (∀ i, i < k → num (byteAt s i) < 64) ∧ ¬ num (byteAt s k) < 64
theorem bad_or (s : ByteArray) : (∃ m, firstBad s m) ∨ allGood s := by
  have h : ∀ k, k ≤ s.size → (∃ m, firstBad s m) ∨ ∀ i, i < k → num (byteAt s i) < 64 := by
    intro k
    induction k with
    | zero => intro _; right; intro i hi; omega
    | succ k ih =>
      intro hk
      rcases ih (by omega) with h | h
      · exact .inl h
      · by_cases hb : num (byteAt s k) < 64
        · right
          intro i hi
          by_cases hik : i = k
          · rw [hik]; exact hb
          · exact h i (by omega)
        · left
          exact ⟨k, by omega, h, hb⟩
  exact h s.size (Nat.le_refl _)
/-- a sign is taken in -/
theorem din (s : ByteArray) (k j n : Nat) (hg : num (byteAt s k) < 64) (hn : 8 * j + n = 6 * k) : vb (dbits s) (8 * j) n * 64 + num (byteAt s k) = vb (dbits s) (8 * j) (n + 6) := by
  have h1 : vb (dbits s) (6 * k) 6 = num (byteAt s k) := strm_whole 6 (by decide) _ k hg
  rw [vb_add, hn, h1]
/-- the sign that stops it -/
def stopAt (s : ByteArray) (m : Nat) : Prop := m ≤ s.size ∧ ∀ i, i < m → num (byteAt s i) < 64
theorem or_low6 (x b : Nat) (hb : b < 64) : (x * 64 ||| b) = x * 64 + b := by
  have := Nat.shiftLeft_add_eq_or_of_lt (i := 6) (b := b) (by simpa using hb) x
  rw [Nat.shiftLeft_eq] at this
  exact this.symm
theorem and_mask (x n m : Nat) (hn : n < 8) (hm : m = 2 ^ n - 1) (hx : x < 18446744073709551616) : bits .and .u64 (x : Int) (m : Int) = ((x % 2 ^ n : Nat) : Int) := by
  have hlt : m < 18446744073709551616 := by
    have : 2 ^ n ≤ 2 ^ 8 := Nat.pow_le_pow_right (by decide) (by omega)
    omega
  rw [u64_and_nat _ _ hx hlt, hm, Nat.and_two_pow_sub_one_eq_mod]
end Go.Proofs.Ytgpjpdeiogopfaa
