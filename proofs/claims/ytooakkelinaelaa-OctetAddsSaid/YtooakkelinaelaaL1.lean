/- THE PLAIN LAW OF THE SUMS. No program in sight. -/
import Derived.Test.YtooakkelinaelaaW8
namespace Go.Proofs.Ytooakkelinaelaa
theorem addS_size (s : ByteArray) (n : Nat) : (addS s n).size = s.size := by
  show (ta s n s.size).toArray.size = _
  simp [ta_length]
theorem ta_get (s : ByteArray) (n m k : Nat) (h : k < m) : (ta s n m)[m - 1 - k]? = some (UInt8.ofNat (cr s n k + (byteAt s (s.size - 1 - k)).toNat)) := by
  induction m with
  | zero => omega
  | succ m ih =>
    by_cases hk : k = m
    · subst hk
      have : k + 1 - 1 - k = 0 := by omega
      rw [this]; rfl
    · have : m + 1 - 1 - k = (m - 1 - k) + 1 := by omega
      rw [this, ta, List.getElem?_cons_succ]
      exact ih (by omega)
theorem addS_at (s : ByteArray) (n k : Nat) (h : k < s.size) : byteAt (addS s n) (s.size - 1 - k) = UInt8.ofNat (cr s n k + (byteAt s (s.size - 1 - k)).toNat) := by
  unfold byteAt
  show ((ta s n s.size).toArray.toList[s.size - 1 - k]?).getD 0 = _
  rw [List.toList_toArray, ta_get s n s.size k h]; rfl
theorem cr_sum (s : ByteArray) (n m k : Nat) (h : k ≤ s.size) : cr s (n + m) k = cr s n k + cr (addS s n) m k := by
  induction k with
  | zero => rfl
  | succ k ih =>
    have h1 := ih (by omega)
    rw [cr, cr, cr, h1, addS_size, addS_at s n k (by omega), UInt8.toNat_ofNat']
    have : (2 : Nat) ^ 8 = 256 := rfl
    rw [this]
    omega
theorem ta_sum (s : ByteArray) (n m k : Nat) (h : k ≤ s.size) : ta s (n + m) k = ta (addS s n) m k := by
  induction k with
  | zero => rfl
  | succ k ih =>
    rw [ta, ta, ih (by omega), cr_sum s n m k (by omega), addS_size, addS_at s n k (by omega)]
    congr 1
    apply UInt8.toNat_inj.1
    rw [UInt8.toNat_ofNat', UInt8.toNat_ofNat', UInt8.toNat_ofNat']
    have : (2 : Nat) ^ 8 = 256 := rfl
    rw [this]
    omega
/-- grown by two numbers one behind the other -/
theorem addS_sum (s : ByteArray) (n m : Nat) : addS (addS s n) m = addS s (n + m) := by
  apply ba_ext
  show (ta (addS s n) m (addS s n).size).toArray.toList = (ta s (n + m) s.size).toArray.toList
  rw [addS_size, List.toList_toArray, List.toList_toArray, ta_sum s n m s.size (Nat.le_refl _)]
end Go.Proofs.Ytooakkelinaelaa
