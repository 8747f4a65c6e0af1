/- THE PROGRAM's PRODUCT IS THE FIELD's: times, the sixteen multiples, and the walk over nibbles. -/
import Derived.Test.YtcbhnfljpbnipaaDoorG1
import Derived.Test.YtcbhnfljpbnipaaDoorW4
namespace Go.Proofs.YtcbhnfljpbnipaaDoor
/-- a pair as one element -/
def toE (p : P2) : E := p.1 ++ p.2
theorem toE_bit (p : P2) (i : Nat) : (toE p).getLsbD i = if i < 64 then p.2.getLsbD i else p.1.getLsbD (i - 64) := by
  unfold toE; rw [BitVec.getLsbD_append]
theorem toE_inj {p q : P2} (h : toE p = toE q) : p = q := by
  obtain ⟨a, b⟩ := p; obtain ⟨c, d⟩ := q
  have hb : b = d := by
    apply BitVec.eq_of_getLsbD_eq
    intro i hi
    have := congrArg (·.getLsbD i) h
    simpa [toE_bit, hi] using this
  have ha : a = c := by
    apply BitVec.eq_of_getLsbD_eq
    intro i hi
    have := congrArg (·.getLsbD (i + 64)) h
    have h64 : ¬ i + 64 < 64 := by omega
    simpa [toE_bit, h64] using this
  rw [ha, hb]
theorem toE_xor (a b c d : BitVec 64) : toE (a ^^^ b, c ^^^ d) = toE (a, c) ^^^ toE (b, d) := by
  apply BitVec.eq_of_getLsbD_eq
  intro i hi
  simp only [BitVec.getLsbD_xor, toE_bit]
  split <;> rfl
theorem toE_zero : toE (0#64, 0#64) = 0#128 := by decide
theorem toE_shift (hi lo : BitVec 64) (k : Nat) (hk : k ≤ 64) : toE (hi >>> k, lo >>> k ||| hi <<< (64 - k)) = toE (hi, lo) >>> k := by
  apply BitVec.eq_of_getLsbD_eq
  intro i hi'
  simp only [BitVec.getLsbD_ushiftRight, toE_bit, BitVec.getLsbD_or, BitVec.getLsbD_shiftLeft]
  by_cases h : i < 64
  · rw [if_pos h]
    by_cases h2 : k + i < 64
    · rw [if_pos h2]
      have : i < 64 - k := by omega
      simp [this]
    · rw [if_neg h2]
      have : ¬ i < 64 - k := by omega
      have h3 : lo.getLsbD (k + i) = false := BitVec.getLsbD_of_ge _ _ (by omega)
      have h4 : i - (64 - k) = k + i - 64 := by omega
      simp [this, h3, h, h4]
  · rw [if_neg h, if_neg (by omega)]
    congr 1; omega
theorem and1_bit (lo : BitVec 64) : (n64 (lo &&& 1#64) == 1) = lo.getLsbD 0 := by
  have h : (lo &&& 1#64).toNat = if lo.getLsbD 0 then 1 else 0 := by
    rw [BitVec.toNat_and]
    show lo.toNat &&& 1 = _
    rw [Nat.and_one_is_mod, BitVec.getLsbD, Nat.testBit_zero]
    rcases Nat.mod_two_eq_zero_or_one lo.toNat with h | h <;> simp [h]
  unfold n64
  rw [h]
  cases lo.getLsbD 0 <;> rfl
theorem tms_T (p : P2) : toE (tms p) = T (toE p) := by
  obtain ⟨hi, lo⟩ := p
  have h0 : (toE (hi, lo)).getLsbD 0 = lo.getLsbD 0 := by rw [toE_bit]; rfl
  unfold T
  rw [h0, ← toE_shift hi lo 1 (by decide)]
  simp only [tms, and1_bit]
  cases lo.getLsbD 0
  · simp
  · simp only [if_true]
    have := toE_xor (hi >>> 1) 0xe100000000000000#64 (lo >>> 1 ||| hi <<< 63) 0#64
    rw [BitVec.xor_zero] at this
    rw [this]
    congr 1
theorem tmsN_T (p : P2) (n : Nat) : toE (tmsN p n) = Tn n (toE p) := by
  induction n with
  | zero => rfl
  | succ n ih => rw [tmsN, tms_T, ih]; rfl
/-- what four bits that fall out come to -/
theorem fold_T : ∀ o, o < 16 → Tn 4 (BitVec.ofNat 128 o) = toE (foldL[o]?.getD 0#64 <<< 48, 0#64) := by decide +kernel
theorem T_shl (y : E) (k : Nat) (hk : k < 4) : T ((y >>> 4) <<< (k + 1)) = (y >>> 4) <<< k := by
  unfold T
  have h0 : ((y >>> 4) <<< (k + 1)).getLsbD 0 = false := by rw [BitVec.getLsbD_shiftLeft]; simp
  rw [h0]
  apply BitVec.eq_of_getLsbD_eq
  intro i hi
  simp only [BitVec.getLsbD_xor, BitVec.getLsbD_ushiftRight, BitVec.getLsbD_shiftLeft]
  simp
  by_cases h1 : i < 127
  · have h2 : 1 + i < 128 := by omega
    by_cases h3 : i < k
    · have h4 : 1 + i < k + 1 := by omega
      simp [h3, h4]
    · have h4 : ¬ 1 + i < k + 1 := by omega
      have h5 : 1 + i - (k + 1) = i - k := by omega
      simp [h3, h4, hi, h2, h5]
  · have h2 : ¬ 1 + i < 128 := by omega
    have h3 : y.getLsbD (4 + (i - k)) = false := BitVec.getLsbD_of_ge _ _ (by omega)
    simp [h2, h3]
theorem T4_shl (y : E) : Tn 4 ((y >>> 4) <<< 4) = y >>> 4 := by
  show T (T (T (T ((y >>> 4) <<< 4)))) = _
  rw [T_shl y 3 (by decide), T_shl y 2 (by decide), T_shl y 1 (by decide), T_shl y 0 (by decide)]
  simp
theorem T4 (y : E) : Tn 4 y = (y >>> 4) ^^^ Tn 4 (y &&& 15#128) := by
  have h : y = ((y >>> 4) <<< 4) ^^^ (y &&& 15#128) := by
    apply BitVec.eq_of_getLsbD_eq
    intro i hi
    simp only [BitVec.getLsbD_xor, BitVec.getLsbD_ushiftRight, BitVec.getLsbD_shiftLeft, BitVec.getLsbD_and]
    have h15 : (15#128).getLsbD i = decide (i < 4) := by
      have : ∀ i, i < 128 → (15#128).getLsbD i = decide (i < 4) := by decide
      exact this i hi
    rw [h15]
    by_cases h : i < 4
    · simp [h]
    · have h2 : 4 + (i - 4) = i := by omega
      simp [h, hi, h2]
  conv => lhs; rw [h]
  rw [Tn_xor, T4_shl]
theorem byStep_T (ms : List (BitVec 64)) (z : P2) (x : BitVec 64) :
    toE (byStep ms z x) = Tn 4 (toE z) ^^^ toE (ms[(x &&& 15#64).toNat * 2]?.getD 0#64, ms[(x &&& 15#64).toNat * 2 + 1]?.getD 0#64) := by
  obtain ⟨hi, lo⟩ := z
  have hn : toE (hi, lo) &&& 15#128 = BitVec.ofNat 128 (lo &&& 15#64).toNat := by
    apply BitVec.eq_of_toNat_eq
    have h1 : (BitVec.ofNat 128 (lo &&& 15#64).toNat).toNat = (lo &&& 15#64).toNat := by
      rw [BitVec.toNat_ofNat]; exact Nat.mod_eq_of_lt (Nat.lt_trans (and15_lt lo) (by decide))
    rw [h1, BitVec.toNat_and, BitVec.toNat_and]
    show (toE (hi, lo)).toNat &&& (2 ^ 4 - 1) = lo.toNat &&& (2 ^ 4 - 1)
    rw [Nat.and_two_pow_sub_one_eq_mod, Nat.and_two_pow_sub_one_eq_mod]
    unfold toE
    rw [BitVec.toNat_append]
    rw [← Nat.shiftLeft_add_eq_or_of_lt lo.isLt, Nat.shiftLeft_eq]
    omega
  rw [T4, hn, fold_T _ (and15_lt lo), ← toE_shift hi lo 4 (by decide), ← toE_xor, ← toE_xor, BitVec.xor_zero]
  rfl
/-! ## The sixteen multiples -/
def cnd (i j : Nat) : Bool := (bits .and .i64 (i : Int) (bt j : Int) != 0) && ((i : Int) != (bt j : Int))
/-- an element of the table -/
def at2 (l : List (BitVec 64)) (i : Nat) : E := toE (l[i * 2]?.getD 0#64, l[i * 2 + 1]?.getD 0#64)
theorem at2_xor2 (l : List (BitVec 64)) (i j k : Nat) (hi : i * 2 + 1 < l.length) : at2 (xor2 l i j) k = if k = i then at2 l i ^^^ at2 l j else at2 l k := by
  unfold at2 xor2
  by_cases h : k = i
  · subst h
    rw [if_pos rfl, ← toE_xor]
    congr 2
    · rw [List.getElem?_set_ne (by omega), List.getElem?_set_self (by omega)]; rfl
    · rw [List.getElem?_set_self (by rw [List.length_set]; omega)]; rfl
  · rw [if_neg h]
    congr 2
    · rw [List.getElem?_set_ne (by omega), List.getElem?_set_ne (by omega)]
    · rw [List.getElem?_set_ne (by omega), List.getElem?_set_ne (by omega)]
theorem at2_put2 (l : List (BitVec 64)) (i k : Nat) (p : P2) (hi : i * 2 + 1 < l.length) : at2 (put2 l i p) k = if k = i then toE p else at2 l k := by
  unfold at2 put2
  by_cases h : k = i
  · subst h
    rw [if_pos rfl]
    congr 2
    · rw [List.getElem?_set_ne (by omega), List.getElem?_set_self (by omega)]; rfl
    · rw [List.getElem?_set_self (by rw [List.length_set]; omega)]; rfl
  · rw [if_neg h]
    congr 2
    · rw [List.getElem?_set_ne (by omega), List.getElem?_set_ne (by omega)]
    · rw [List.getElem?_set_ne (by omega), List.getElem?_set_ne (by omega)]
/-- the table, as a function -/
def f3 (f : Nat → E) (i : Nat) : Nat → Nat → E
  | 0 => f
  | j + 1 => fun k => if cnd i j && k == i then f3 f i j i ^^^ f3 f i j (bt j) else f3 f i j k
def f2 (f : Nat → E) : Nat → Nat → E
  | 0 => f
  | i + 1 => f3 (f2 f i) i 4
theorem at2_m3 (l : List (BitVec 64)) (i : Nat) (hl : l.length = 32) (hi : i < 16) (f : Nat → E) (hf : ∀ k, at2 l k = f k) (j : Nat) : ∀ k, at2 (m3 l i j) k = f3 f i j k := by
  induction j with
  | zero => exact hf
  | succ j ih =>
    intro k
    show at2 (if cnd i j then xor2 (m3 l i j) i (bt j) else m3 l i j) k = if cnd i j && k == i then f3 f i j i ^^^ f3 f i j (bt j) else f3 f i j k
    cases cnd i j
    · simp [ih]
    · simp only [if_true, Bool.true_and]
      rw [at2_xor2 _ _ _ _ (by rw [m3_length, hl]; omega)]
      by_cases h : k = i
      · simp [h, ih]
      · simp [h, ih]
theorem at2_m2 (l : List (BitVec 64)) (hl : l.length = 32) (f : Nat → E) (hf : ∀ k, at2 l k = f k) (i : Nat) (hi : i ≤ 16) : ∀ k, at2 (m2 l i) k = f2 f i k := by
  induction i with
  | zero => exact hf
  | succ i ih =>
    intro k
    exact at2_m3 (m2 l i) i (by rw [m2_length, hl]) (by omega) (f2 f i) (ih (by omega)) 4 k
/-- what the table holds: the sum of those powers whose bits stand in i -/
def mE (v : E) (i : Nat) : E := (if i.testBit 3 then v else 0#128) ^^^ (if i.testBit 2 then Tn 1 v else 0#128) ^^^ (if i.testBit 1 then Tn 2 v else 0#128) ^^^ (if i.testBit 0 then Tn 3 v else 0#128)
end Go.Proofs.YtcbhnfljpbnipaaDoor
