/- SUMS OVER TEXTS, PLAINLY: a sum goes on over a text behind; the sum of sums. -/
import Derived.Test.YtcbhnfljpbnipaaDoorL4
namespace Go.Proofs.YtcbhnfljpbnipaaDoor
theorem ba_ext {s t : ByteArray} (h : s.data.toList = t.data.toList) : s = t := by
  cases s; cases t; congr 1; exact Array.toList_inj.1 h
theorem ba_extract (s : ByteArray) (i j : Nat) : (s.extract i j).data.toList = (s.data.toList.drop i).take (j - i) := by
  rw [ByteArray.data_extract, Array.toList_extract]
theorem ba_append (s t : ByteArray) : (s ++ t).data.toList = s.data.toList ++ t.data.toList := by
  rw [ByteArray.data_append, Array.toList_append]
theorem blk_list (s : ByteArray) (k : Nat) : (blkOf s k).data.toList = (s.data.toList.drop (16 * k)).take 16 := by
  unfold blkOf
  rw [ba_extract, show 16 * k + 16 - 16 * k = 16 by omega]
theorem blk_append_left (a b : ByteArray) (k : Nat) (h : 16 * k + 16 ≤ a.size) : blkOf (a ++ b) k = blkOf a k := by
  apply ba_ext
  have hl : a.data.toList.length = a.size := by simp
  rw [blk_list, blk_list, ba_append, List.drop_append_of_le_length (by omega), List.take_append_of_le_length (by rw [List.length_drop]; omega)]
theorem blk_append_right (a b : ByteArray) (n k : Nat) (h : a.size = 16 * n) : blkOf (a ++ b) (n + k) = blkOf b k := by
  apply ba_ext
  have hl : a.data.toList.length = 16 * n := by simpa using h
  rw [blk_list, blk_list, ba_append, List.drop_append, List.drop_of_length_le (by omega), List.nil_append, hl, show 16 * (n + k) - 16 * n = 16 * k by omega]
theorem sumTo_left (key a b : ByteArray) (k : Nat) (h : 16 * k ≤ a.size) : sumTo key (a ++ b) k = sumTo key a k := by
  induction k with
  | zero => rfl
  | succ k ih => rw [sumTo, sumTo, ih (by omega), blk_append_left a b k (by omega)]
theorem xorP_zero (p : P2) : xorP (0#64, 0#64) p = p := by unfold xorP; simp
/-- what comes next: the sum over a text goes on from what was there -/
theorem sumTo_joins (key a b x : ByteArray) (n m : Nat) (ha : a.size = 16 * n) (hb : b.size = 16 * (m + 1)) (hx : x = ⟨(xorL (stB (sumTo key a n)) (b.extract 0 16)).toArray⟩) :
    sumTo key (x ++ b.extract 16 b.size) (m + 1) = sumTo key (a ++ b) (n + (m + 1)) := by
  have hb0 : (b.extract 0 16).size = 16 := by rw [ByteArray.size_extract]; omega
  have hx16 : x.size = 16 := by
    rw [hx]
    show (xorL (stB (sumTo key a n)) (b.extract 0 16)).toArray.size = 16
    simpa using xorL_length _ _ (stB_size _) hb0
  have h0 : blkOf (x ++ b.extract 16 b.size) 0 = x := by
    rw [blk_append_left _ _ _ (by omega)]
    apply ba_ext
    rw [blk_list]
    have hl : x.data.toList.length = 16 := by simpa using hx16
    rw [List.drop_zero, List.take_of_length_le (by omega)]
  have hs : ∀ j, blkOf (x ++ b.extract 16 b.size) (j + 1) = blkOf b (j + 1) := by
    intro j
    rw [Nat.add_comm j 1, blk_append_right x _ 1 j (by omega)]
    apply ba_ext
    have h1 : (b.data.toList.drop 16).take (b.size - 16) = b.data.toList.drop 16 := List.take_of_length_le (by rw [List.length_drop]; simp)
    rw [blk_list, blk_list, ba_extract, h1, List.drop_drop, show 16 * (1 + j) = 16 + 16 * j by omega]
  have hz : sumTo key (a ++ b) n = sumTo key a n := sumTo_left key a b n (by omega)
  have hbl : blkOf b 0 = b.extract 0 16 := rfl
  have main : ∀ j, sumTo key (x ++ b.extract 16 b.size) (j + 1) = sumTo key (a ++ b) (n + (j + 1)) := by
    intro j
    induction j with
    | zero =>
      show gmul (xorP (0#64, 0#64) (ldP (blkOf (x ++ b.extract 16 b.size) 0))) (ldP key) = gmul (xorP (sumTo key (a ++ b) n) (ldP (blkOf (a ++ b) n))) (ldP key)
      have hr := blk_append_right a b n 0 ha
      rw [Nat.add_zero] at hr
      rw [h0, xorP_zero, hz, hr, hbl, hx, ld_xor _ _ (stB_size _) hb0, ld_st]
    | succ j ih =>
      show gmul (xorP (sumTo key (x ++ b.extract 16 b.size) (j + 1)) (ldP (blkOf (x ++ b.extract 16 b.size) (j + 1)))) (ldP key) = gmul (xorP (sumTo key (a ++ b) (n + (j + 1))) (ldP (blkOf (a ++ b) (n + (j + 1))))) (ldP key)
      rw [ih, hs j, blk_append_right a b n (j + 1) ha]
  exact main m
theorem gmul_xor_left (p q r : P2) : gmul (xorP p q) r = xorP (gmul p r) (gmul q r) := by
  rw [gmul_comm, gmul_xorP, gmul_comm r p, gmul_comm r q]
theorem xorP_cross (a b c d : P2) : xorP (xorP a b) (xorP c d) = xorP (xorP a c) (xorP b d) := by
  apply toE_inj
  simp only [xorP_E]
  exact xor_cross _ _ _ _
theorem sumTo_shares (key a b : ByteArray) (n : Nat) (ha : a.size = 16 * n) (hb : b.size = 16 * n) (k : Nat) (hk : k ≤ n) :
    sumTo key ⟨(xorL a b).toArray⟩ k = xorP (sumTo key a k) (sumTo key b k) := by
  induction k with
  | zero => exact (xorP_zero _).symm
  | succ k ih =>
    have hbl : blkOf ⟨(xorL a b).toArray⟩ k = ⟨(xorL (blkOf a k) (blkOf b k)).toArray⟩ := by
      apply ba_ext
      rw [blk_list]
      show (((xorL a b).toArray.toList).drop (16 * k)).take 16 = xorL (blkOf a k) (blkOf b k)
      unfold xorL
      rw [blk_list, blk_list, ← List.take_zipWith, ← List.drop_zipWith]
    rw [sumTo, sumTo, sumTo, ih (by omega), hbl, ld_xor _ _ (blkOf_size a k (by omega)) (blkOf_size b k (by omega)), xorP_cross, gmul_xor_left]
end Go.Proofs.YtcbhnfljpbnipaaDoor
