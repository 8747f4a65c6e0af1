/- BYTES AND BITS: what the elements' bytes are; the program's product and the reference's are one text. -/
import Derived.Test.YtcbhnfljpbnipaaDoorG3
import Derived.Test.YtcbhnfljpbnipaaDoorG4
import Derived.Test.YtcbhnfljpbnipaaDoorW7
import Derived.Test.YtcbhnfljpbnipaaDoorW8
namespace Go.Proofs.YtcbhnfljpbnipaaDoor
/-- bit number i of a text, the highest first -/
def bt8 (l : List UInt8) (i : Nat) : Bool := (l[i / 8]?.getD 0).toNat.testBit (7 - i % 8)
theorem ofBit_eq (s : ByteArray) (i : Nat) : ofBit s i = bt8 s.data.toList i := by
  unfold ofBit bt8
  rw [List.getD_eq_getElem?_getD]
  obtain ⟨x, hx⟩ : ∃ x : UInt8, x = s.data.toList[i / 8]?.getD 0 := ⟨_, rfl⟩
  rw [← hx]
  have h1 : ((x.toNat : Int) / (2 : Int) ^ (7 - i % 8)) = ((x.toNat / 2 ^ (7 - i % 8) : Nat) : Int) := by
    rw [Int.natCast_ediv, Int.natCast_pow]; rfl
  have h2 : x.toNat / 2 ^ (7 - i % 8) < 256 := Nat.lt_of_le_of_lt (Nat.div_le_self _ _) x.toNat_lt
  rw [h1, show (1 : Int) = ((1 : Nat) : Int) from rfl, u8_and_nat _ _ h2 (by decide), Nat.and_one_is_mod, Nat.testBit_eq_decide_div_mod_eq]
  rcases Nat.mod_two_eq_zero_or_one (x.toNat / 2 ^ (7 - i % 8)) with h | h <;> rw [h] <;> rfl
theorem lc_ofTo (s : ByteArray) (n : Nat) : ∀ i, i < 128 → lc (ofTo s n) i = (decide (i < n) && bt8 s.data.toList i) := by
  induction n with
  | zero =>
    intro i _
    have h : (List.replicate 128 false)[i]?.getD false = false := by rw [List.getElem?_replicate]; split <;> rfl
    simp only [Nat.not_lt_zero, decide_false, Bool.false_and]
    exact h
  | succ n ih =>
    intro i hi
    show ((ofTo s n).set n (ofBit s n))[i]?.getD false = _
    by_cases h : n = i
    · subst h
      rw [List.getElem?_set_self (by rw [ofTo_length]; exact hi), ofBit_eq]
      simp
    · rw [List.getElem?_set_ne h]
      have h2 : decide (i < n + 1) = decide (i < n) := by simp; omega
      rw [h2]
      exact ih i hi
theorem at8_bit (s : ByteArray) (m r : Nat) (hr : r < 8) : (at8 s m).getLsbD r = (s.data.toList[m]?.getD 0).toNat.testBit r := by
  unfold at8
  rw [BitVec.getLsbD_setWidth, List.getD_eq_getElem?_getD]
  have : decide (r < 64) = true := by simp; omega
  rw [this, Bool.true_and]
  rfl
theorem at8_high (s : ByteArray) (m r : Nat) (hr : 8 ≤ r) : (at8 s m).getLsbD r = false := by
  unfold at8
  rw [BitVec.getLsbD_setWidth, BitVec.getLsbD_of_ge _ _ hr, Bool.and_false]
theorem ldTo_bit (s : ByteArray) (off k : Nat) (hk : k ≤ 8) : ∀ j, j < 8 * k → (ldTo s off k).getLsbD j = (at8 s (off + (k - 1 - j / 8))).getLsbD (j % 8) := by
  induction k with
  | zero => intro j hj; omega
  | succ k ih =>
    intro j hj
    show (ldTo s off k <<< 8 ||| at8 s (off + k)).getLsbD j = _
    rw [BitVec.getLsbD_or, BitVec.getLsbD_shiftLeft]
    have h64 : decide (j < 64) = true := by simp; omega
    by_cases h : j < 8
    · have h1 : k + 1 - 1 - j / 8 = k := by omega
      have h2 : j % 8 = j := by omega
      rw [h1, h2]
      simp [h]
    · rw [at8_high _ _ _ (by omega), ih (by omega) (j - 8) (by omega)]
      have h1 : k - 1 - (j - 8) / 8 = k + 1 - 1 - j / 8 := by omega
      have h2 : (j - 8) % 8 = j % 8 := by omega
      rw [h1, h2, h64]
      simp [h]
theorem coef_ld (s : ByteArray) (i : Nat) (hi : i < 128) : coef (toE (ldP s)) i = bt8 s.data.toList i := by
  unfold coef bt8
  rw [toE_bit]
  show (if 127 - i < 64 then (ldTo s 8 8).getLsbD (127 - i) else (ldTo s 0 8).getLsbD (127 - i - 64)) = _
  by_cases h : 127 - i < 64
  · rw [if_pos h, ldTo_bit s 8 8 (by decide) _ (by omega), at8_bit _ _ _ (by omega)]
    rw [show 8 + (8 - 1 - (127 - i) / 8) = i / 8 by omega, show (127 - i) % 8 = 7 - i % 8 by omega]
  · rw [if_neg h, ldTo_bit s 0 8 (by decide) _ (by omega), at8_bit _ _ _ (by omega)]
    rw [show 0 + (8 - 1 - (127 - i - 64) / 8) = i / 8 by omega, show (127 - i - 64) % 8 = 7 - i % 8 by omega]
theorem byteOf_bit (x : BitVec 64) (j r : Nat) (hr : r < 8) : (byteOf x j).toNat.testBit r = x.getLsbD (56 - 8 * j + r) := by
  unfold byteOf
  have h : (UInt8.ofNat (x.toNat / 2 ^ (56 - 8 * j) % 256)).toNat = x.toNat / 2 ^ (56 - 8 * j) % 2 ^ 8 := by simp
  rw [h, Nat.testBit_mod_two_pow, Nat.testBit_div_two_pow]
  have : decide (r < 8) = true := by simpa using hr
  rw [this, Bool.true_and, Nat.add_comm]
  rfl
theorem stTo_list (hi lo : BitVec 64) : stTo hi lo 8 = (List.range 8).map (byteOf hi) ++ (List.range 8).map (byteOf lo) := rfl
theorem bt8_st (p : P2) (i : Nat) (hi : i < 128) : bt8 (stTo p.1 p.2 8) i = coef (toE p) i := by
  unfold coef bt8
  rw [toE_bit, stTo_list]
  by_cases h : i / 8 < 8
  · rw [List.getElem?_append_left (by simpa using h), List.getElem?_map, List.getElem?_range h]
    show (byteOf p.1 (i / 8)).toNat.testBit (7 - i % 8) = _
    rw [byteOf_bit _ _ _ (by omega), if_neg (by omega)]
    congr 1; omega
  · rw [List.getElem?_append_right (by simpa using h), List.getElem?_map]
    have h8 : i / 8 - ((List.range 8).map (byteOf p.1)).length = i / 8 - 8 := by simp
    rw [h8, List.getElem?_range (by omega)]
    show (byteOf p.2 (i / 8 - 8)).toNat.testBit (7 - i % 8) = _
    rw [byteOf_bit _ _ _ (by omega), if_pos (by omega)]
    congr 1; omega
theorem bt8_tx (e : List Bool) (n : Nat) (hn : n ≤ 128) : ∀ i, i < 128 → bt8 (txTo e n) i = (decide (i < n) && lc e i) := by
  induction n with
  | zero =>
    intro i hi
    unfold bt8
    have h : ((List.replicate 16 (0 : UInt8))[i / 8]?.getD 0) = 0 := by rw [List.getElem?_replicate]; split <;> rfl
    show (((List.replicate 16 (0 : UInt8))[i / 8]?.getD 0).toNat.testBit _) = _
    rw [h]
    simp
  | succ n ih =>
    intro i hi
    show bt8 (if lc e n then (txTo e n).set (n / 8) (orBit ((txTo e n).getD (n / 8) 0) n) else txTo e n) i = _
    by_cases hl : lc e n = true
    · rw [if_pos hl]
      have ihi := ih (by omega) i hi
      unfold bt8 at ihi ⊢
      by_cases h : n / 8 = i / 8
      · rw [← h, List.getElem?_set_self (by rw [txTo_length]; omega)]
        rw [← h] at ihi
        show (orBit _ n).toNat.testBit _ = _
        unfold orBit
        have h2 : (UInt8.ofNat (2 ^ (7 - n % 8))).toNat = 2 ^ (7 - n % 8) := by
          rw [UInt8.toNat_ofNat']
          exact Nat.mod_eq_of_lt (Nat.lt_of_le_of_lt (Nat.pow_le_pow_right (by decide) (by omega : 7 - n % 8 ≤ 7)) (by decide))
        rw [UInt8.toNat_or, h2, Nat.testBit_or, List.getD_eq_getElem?_getD, ihi, Nat.testBit_two_pow]
        by_cases h3 : i = n
        · subst h3; simp [hl]
        · have h4 : ¬ (7 - n % 8 = 7 - i % 8) := by omega
          have h5 : decide (i < n + 1) = decide (i < n) := by simp; omega
          simp [h4, h5]
      · rw [List.getElem?_set_ne h, ihi]
        have h5 : decide (i < n + 1) = decide (i < n) := by simp; omega
        rw [h5]
    · rw [if_neg hl, ih (by omega) i hi]
      by_cases h3 : i = n
      · subst h3; simp [Bool.eq_false_iff.2 hl]
      · have h5 : decide (i < n + 1) = decide (i < n) := by simp; omega
        rw [h5]
/-- texts of sixteen bytes with the same bits are one -/
theorem ext16 (l m : List UInt8) (hl : l.length = 16) (hm : m.length = 16) (h : ∀ i, i < 128 → bt8 l i = bt8 m i) : l = m := by
  apply List.ext_getElem?
  intro k
  by_cases hk : k < 16
  · rw [List.getElem?_eq_getElem (by omega), List.getElem?_eq_getElem (by omega)]
    congr 1
    apply UInt8.toNat_inj.1
    apply Nat.eq_of_testBit_eq
    intro r
    by_cases hr : r < 8
    · have := h (8 * k + (7 - r)) (by omega)
      unfold bt8 at this
      rw [show (8 * k + (7 - r)) / 8 = k by omega, show 7 - (8 * k + (7 - r)) % 8 = r by omega, List.getElem?_eq_getElem (by omega), List.getElem?_eq_getElem (by omega)] at this
      exact this
    · rw [Nat.testBit_lt_two_pow (Nat.lt_of_lt_of_le (UInt8.toNat_lt _) (Nat.pow_le_pow_right (by decide) (by omega : 8 ≤ r))), Nat.testBit_lt_two_pow (Nat.lt_of_lt_of_le (UInt8.toNat_lt _) (Nat.pow_le_pow_right (by decide) (by omega : 8 ≤ r)))]
  · rw [List.getElem?_eq_none (by omega), List.getElem?_eq_none (by omega)]
/-- elements with the same factors are one -/
theorem extE (x y : E) (h : ∀ i, i < 128 → coef x i = coef y i) : x = y := by
  rw [← comb_coef x, ← comb_coef y]
  exact comb_congr _ _ _ _ h
theorem comb_of (s : ByteArray) : comb (lc (ofTo s 128)) e0 128 = toE (ldP s) := by
  rw [← comb_coef (toE (ldP s))]
  refine comb_congr _ _ _ _ (fun i hi => ?_)
  rw [coef_ld s i hi, lc_ofTo s 128 i hi]
  simp [hi]
/-- THE PROGRAM's PRODUCT AND THE REFERENCE's, as texts. -/
theorem product_text (a b : ByteArray) : stTo (gmul (ldP a) (ldP b)).1 (gmul (ldP a) (ldP b)).2 8 = txTo (timesR (ofTo a 128) (ofTo b 128)) 128 := by
  refine ext16 _ _ (stTo_length _ _ _) (txTo_length _ _) (fun i hi => ?_)
  rw [bt8_st _ i hi, bt8_tx _ 128 (Nat.le_refl _) i hi, gmul_E]
  have h := timesR_E (ofTo a 128) (ofTo b 128)
  rw [comb_of, comb_of] at h
  rw [← h]
  unfold coef
  rw [comb_e0_bit _ 128 (Nat.le_refl _) i hi]
theorem gmul_comm (a b : P2) : gmul a b = gmul b a := toE_inj (by rw [gmul_E, gmul_E, fmul_comm])
theorem gmul_assoc (a b c : P2) : gmul (gmul a b) c = gmul a (gmul b c) := toE_inj (by rw [gmul_E, gmul_E, gmul_E, gmul_E, fmul_assoc])
theorem ld_st (p : P2) : ldP (stB p) = p := by
  apply toE_inj
  apply extE
  intro i hi
  rw [coef_ld _ i hi, ← bt8_st p i hi]
  rfl
theorem stB_size (p : P2) : (stB p).size = 16 := by
  show ((stTo p.1 p.2 8).toArray).size = 16
  simp [stTo_length]
theorem stB_inj {p q : P2} (h : stB p = stB q) : p = q := by rw [← ld_st p, h, ld_st]
theorem st_ld (s : ByteArray) (hs : s.size = 16) : stB (ldP s) = s := by
  have h : stTo (ldP s).1 (ldP s).2 8 = s.data.toList := ext16 _ _ (stTo_length _ _ _) (by simpa using hs) (fun i hi => by rw [bt8_st _ i hi, coef_ld s i hi])
  unfold stB
  rw [h]
/-- the sum of elements, as pairs -/
def xorP (p q : P2) : P2 := (p.1 ^^^ q.1, p.2 ^^^ q.2)
theorem xorP_E (p q : P2) : toE (xorP p q) = toE p ^^^ toE q := toE_xor _ _ _ _
theorem bt8_xor (l m : List UInt8) (hl : l.length = 16) (hm : m.length = 16) (i : Nat) (hi : i < 128) : bt8 (List.zipWith (· ^^^ ·) l m) i = (bt8 l i ^^ bt8 m i) := by
  unfold bt8
  rw [List.getElem?_zipWith, List.getElem?_eq_getElem (by omega), List.getElem?_eq_getElem (by omega)]
  show (_ ^^^ _ : UInt8).toNat.testBit _ = _
  rw [UInt8.toNat_xor, Nat.testBit_xor]
  rfl
theorem xorL_length (a b : ByteArray) (ha : a.size = 16) (hb : b.size = 16) : (xorL a b).length = 16 := by
  unfold xorL; rw [List.length_zipWith]; simp [ha, hb]
theorem ld_xor (a b : ByteArray) (ha : a.size = 16) (hb : b.size = 16) : ldP ⟨(xorL a b).toArray⟩ = xorP (ldP a) (ldP b) := by
  apply toE_inj
  apply extE
  intro i hi
  rw [coef_ld _ i hi, xorP_E]
  show bt8 (xorL a b) i = (toE (ldP a) ^^^ toE (ldP b)).getLsbD (127 - i)
  unfold xorL
  rw [bt8_xor _ _ (by simpa using ha) (by simpa using hb) i hi, BitVec.getLsbD_xor, ← coef_ld a i hi, ← coef_ld b i hi]
  rfl
theorem gmul_xorP (a b c : P2) : gmul a (xorP b c) = xorP (gmul a b) (gmul a c) := toE_inj (by rw [gmul_E, xorP_E, xorP_E, gmul_E, gmul_E, fmul_xor])
/-- the sum of two texts of sixteen bytes is the text of the sum -/
theorem st_xor (p q : P2) : stB (xorP p q) = ⟨(xorL (stB p) (stB q)).toArray⟩ := by
  have h := ld_xor (stB p) (stB q) (stB_size p) (stB_size q)
  rw [ld_st, ld_st] at h
  rw [← h, st_ld]
  show ((xorL (stB p) (stB q)).toArray).size = 16
  simp [xorL_length _ _ (stB_size p) (stB_size q)]
end Go.Proofs.YtcbhnfljpbnipaaDoor
