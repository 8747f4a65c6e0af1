/- THE SIXTEEN MULTIPLES, AND THE WHOLE PRODUCT. -/
import Derived.Test.YtcbhnfljpbnipaaDoorG2
namespace Go.Proofs.YtcbhnfljpbnipaaDoor
theorem f3_other (f : Nat → E) (i j k : Nat) (h : k ≠ i) : f3 f i j k = f k := by
  induction j with
  | zero => rfl
  | succ j ih =>
    have : (k == i) = false := by simpa using h
    simp only [f3, this, Bool.and_false, Bool.false_eq_true, if_false, ih]
theorem f2_above (f : Nat → E) (n k : Nat) (h : n ≤ k) : f2 f n k = f k := by
  induction n with
  | zero => rfl
  | succ n ih => rw [f2, f3_other _ _ _ _ (by omega), ih (by omega)]
theorem f2_below (f : Nat → E) (n k : Nat) (h : k < n) : f2 f n k = f3 (f2 f k) k 4 k := by
  induction n with
  | zero => omega
  | succ n ih =>
    by_cases hk : k = n
    · subst hk; rfl
    · rw [f2, f3_other _ _ _ _ hk, ih (by omega)]
theorem cnd_pow : ∀ j, j < 4 → ∀ b, b ∈ [1, 2, 4, 8] → cnd b j = false := by decide +kernel
theorem f3_pow (f : Nat → E) (b : Nat) (hb : b ∈ [1, 2, 4, 8]) : f3 f b 4 b = f b := by
  simp only [f3, cnd_pow 0 (by decide) b hb, cnd_pow 1 (by decide) b hb, cnd_pow 2 (by decide) b hb, cnd_pow 3 (by decide) b hb, Bool.false_and, Bool.false_eq_true, if_false]
theorem f2_pow (f : Nat → E) (n b : Nat) (hb : b ∈ [1, 2, 4, 8]) : f2 f n b = f b := by
  by_cases h : b < n
  · rw [f2_below f n b h, f3_pow _ _ hb, f2_above f b b (Nat.le_refl _)]
  · exact f2_above f n b (by omega)
/-- one entry, when the powers' entries are what they were -/
theorem f3_entry (g : Nat → E) (k : Nat) : f3 g k 4 k =
    ((((g k ^^^ if cnd k 0 then f3 g k 0 8 else 0#128) ^^^ if cnd k 1 then f3 g k 1 4 else 0#128) ^^^ if cnd k 2 then f3 g k 2 2 else 0#128) ^^^ if cnd k 3 then f3 g k 3 1 else 0#128) := by
  have h8 : bt 0 = 8 := rfl
  have h4 : bt 1 = 4 := rfl
  have h2 : bt 2 = 2 := rfl
  have h1 : bt 3 = 1 := rfl
  have step : ∀ j, f3 g k (j + 1) k = f3 g k j k ^^^ if cnd k j then f3 g k j (bt j) else 0#128 := by
    intro j
    simp only [f3, beq_self_eq_true, Bool.and_true]
    cases cnd k j <;> simp
  rw [step 3, step 2, step 1, step 0, h8, h4, h2, h1]
  rfl
theorem cnd_ne : ∀ k, k < 16 → ∀ j, j < 4 → cnd k j = true → bt j ≠ k := by decide +kernel
theorem cnd_bit : ∀ k, k < 16 → ∀ j, j < 4 → cnd k j = (k.testBit (3 - j) && k != bt j) := by decide +kernel
/-- the table before the sums -/
def f1 (v : E) (k : Nat) : E := if k = 1 then Tn 3 v else if k = 2 then Tn 2 v else if k = 4 then Tn 1 v else if k = 8 then v else 0#128
theorem entry (v : E) (k : Nat) (hk : k < 16) : f2 (f1 v) 16 k = mE v k := by
  have hs : ∀ j, j < 4 → (if cnd k j then f3 (f2 (f1 v) k) k j (bt j) else 0#128) = if k.testBit (3 - j) && k != bt j then f1 v (bt j) else 0#128 := by
    intro j hj
    rw [← cnd_bit k hk j hj]
    by_cases h : cnd k j = true
    · rw [if_pos h, if_pos h, f3_other _ _ _ _ (cnd_ne k hk j hj h)]
      refine f2_pow _ _ _ ?_
      rcases (by omega : j = 0 ∨ j = 1 ∨ j = 2 ∨ j = 3) with rfl | rfl | rfl | rfl <;> decide
    · rw [if_neg h, if_neg h]
  rw [f2_below _ _ _ hk, f3_entry]
  have s0 := hs 0 (by decide); have s1 := hs 1 (by decide); have s2 := hs 2 (by decide); have s3 := hs 3 (by decide)
  rw [show bt 0 = 8 from rfl] at s0; rw [show bt 1 = 4 from rfl] at s1; rw [show bt 2 = 2 from rfl] at s2; rw [show bt 3 = 1 from rfl] at s3
  rw [s0, s1, s2, s3, f2_above _ _ _ (Nat.le_refl _)]
  clear hs s0 s1 s2 s3
  have hc : k = 0 ∨ k = 1 ∨ k = 2 ∨ k = 3 ∨ k = 4 ∨ k = 5 ∨ k = 6 ∨ k = 7 ∨ k = 8 ∨ k = 9 ∨ k = 10 ∨ k = 11 ∨ k = 12 ∨ k = 13 ∨ k = 14 ∨ k = 15 := by omega
  rcases hc with rfl | rfl | rfl | rfl | rfl | rfl | rfl | rfl | rfl | rfl | rfl | rfl | rfl | rfl | rfl | rfl <;> simp [f1, mE, Nat.testBit]
theorem m1_f1 (p : P2) : ∀ k, at2 (m1 p 4) k = f1 (toE p) k := by
  have h0 : ∀ k, at2 (m1 p 0) k = 0#128 := by
    intro k
    unfold at2
    have : ∀ i : Nat, (m1 p 0)[i]?.getD 0#64 = 0#64 := by
      intro i
      show (List.replicate 32 0#64)[i]?.getD 0#64 = 0#64
      rw [List.getElem?_replicate]; split <;> rfl
    rw [this, this]; exact toE_zero
  intro k
  have s : ∀ j, j < 4 → ∀ k, at2 (m1 p (j + 1)) k = if k = bt j then Tn j (toE p) else at2 (m1 p j) k := by
    intro j hj k
    show at2 (put2 (m1 p j) (bt j) (tmsN p j)) k = _
    rw [at2_put2 _ _ _ _ (by rw [m1_length]; have : bt j ≤ 8 := Nat.div_le_self _ _; omega), tmsN_T]
  rw [s 3 (by decide), s 2 (by decide), s 1 (by decide), s 0 (by decide), h0]
  rfl
/-- THE SIXTEEN MULTIPLES. -/
theorem mults_E (p : P2) (k : Nat) (hk : k < 16) : at2 (mults p) k = mE (toE p) k := by
  unfold mults
  rw [at2_m2 (m1 p 4) (m1_length p 4) (f1 (toE p)) (m1_f1 p) 16 (Nat.le_refl _) k, entry _ _ hk]
/-! ## The walk over nibbles -/
theorem comb_shift (c : Nat → Bool) (v : E) (n m : Nat) : comb c v (n + m) = comb c v n ^^^ Tn n (comb (fun i => c (i + n)) v m) := by
  induction m with
  | zero => simp [comb, Tn_zero]
  | succ m ih =>
    show comb c v (n + m) ^^^ (if c (n + m) then Tn (n + m) v else 0#128) = _
    rw [ih, comb, Tn_xor, BitVec.xor_assoc]
    congr 2
    rw [Nat.add_comm m n]
    cases c (n + m)
    · simp [Tn_zero]
    · simp only [if_true]; exact Tn_add n m v
theorem mE_comb (v : E) (c : Nat → Bool) (k : Nat) (h : ∀ i, i < 4 → c i = k.testBit (3 - i)) : comb c v 4 = mE v k := by
  simp only [comb, mE, h 0 (by decide), h 1 (by decide), h 2 (by decide), h 3 (by decide), BitVec.zero_xor]
  rfl
theorem byTo_snd (ms : List (BitVec 64)) (z : P2) (x : BitVec 64) (k : Nat) : (byTo ms z x k).2 = x >>> (4 * k) := by
  induction k with
  | zero => simp [byTo]
  | succ k ih =>
    show (byTo ms z x k).2 >>> 4 = _
    rw [ih, ← BitVec.shiftRight_add]
    rfl
theorem nib_bit (x : BitVec 64) (k r : Nat) (hr : r < 4) : ((x >>> (4 * k)) &&& 15#64).toNat.testBit r = x.getLsbD (4 * k + r) := by
  show ((x >>> (4 * k)) &&& 15#64).getLsbD r = _
  rw [BitVec.getLsbD_and, BitVec.getLsbD_ushiftRight]
  have : (15#64).getLsbD r = true := by rcases (by omega : r = 0 ∨ r = 1 ∨ r = 2 ∨ r = 3) with rfl | rfl | rfl | rfl <;> decide
  rw [this, Bool.and_true]
theorem byTo_E (p : P2) (z : P2) (x : BitVec 64) (k : Nat) :
    toE (byTo (mults p) z x k).1 = comb (fun i => x.getLsbD (4 * k - 1 - i)) (toE p) (4 * k) ^^^ Tn (4 * k) (toE z) := by
  induction k with
  | zero => simp [byTo, comb, Tn]
  | succ k ih =>
    show toE (byStep (mults p) (byTo (mults p) z x k).1 (byTo (mults p) z x k).2) = _
    rw [byStep_T, ih, byTo_snd]
    have hm := mults_E p ((x >>> (4 * k)) &&& 15#64).toNat (and15_lt _)
    unfold at2 at hm
    rw [hm, ← mE_comb (toE p) (fun i => x.getLsbD (4 * (k + 1) - 1 - i)) _ (fun i hi => by
      rw [nib_bit x k (3 - i) (by omega)]
      show x.getLsbD _ = x.getLsbD _
      congr 1; omega)]
    rw [show 4 * (k + 1) = 4 + 4 * k by omega, comb_shift, Tn_xor, Tn_add]
    rw [comb_congr (fun i => x.getLsbD (4 + 4 * k - 1 - (i + 4))) (fun i => x.getLsbD (4 * k - 1 - i)) (toE p) (4 * k) (fun i hi => by congr 1; omega)]
    rw [BitVec.xor_comm (_ ^^^ _) (comb _ _ 4), ← BitVec.xor_assoc]
/-- THE PROGRAM's PRODUCT. -/
theorem gmul_E (a b : P2) : toE (gmul a b) = fmul (toE a) (toE b) := by
  have h1 : toE (byAll (mults b) a 1) = comb (fun i => a.2.getLsbD (63 - i)) (toE b) 64 := by
    show toE (byTo (mults b) (0#64, 0#64) a.2 16).1 = _
    rw [byTo_E, toE_zero, Tn_zero, BitVec.xor_zero]
  have h2 : toE (gmul a b) = comb (fun i => a.1.getLsbD (63 - i)) (toE b) 64 ^^^ Tn 64 (toE (byAll (mults b) a 1)) := by
    show toE (byTo (mults b) (byAll (mults b) a 1) a.1 16).1 = _
    rw [byTo_E]
  have e1 : comb (fun i => a.1.getLsbD (63 - i)) (toE b) 64 = comb (coef (toE a)) (toE b) 64 := comb_congr _ _ _ _ (fun i hi => by
    unfold coef; rw [toE_bit, if_neg (by omega)]; congr 1; omega)
  have e2 : comb (fun i => a.2.getLsbD (63 - i)) (toE b) 64 = comb (fun i => coef (toE a) (i + 64)) (toE b) 64 := comb_congr _ _ _ _ (fun i hi => by
    unfold coef; rw [toE_bit, if_pos (by omega)]; congr 1; omega)
  rw [h2, h1, e1, e2]
  exact (comb_shift (coef (toE a)) (toE b) 64 64).symm
end Go.Proofs.YtcbhnfljpbnipaaDoor
