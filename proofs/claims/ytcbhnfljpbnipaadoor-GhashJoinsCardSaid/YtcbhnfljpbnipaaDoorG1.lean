/- THE FIELD OF 128 BITS, PLAINLY: multiplication by x is a linear map T; a product is a sum of powers of T. No program in sight. -/
namespace Go.Proofs.YtcbhnfljpbnipaaDoor
abbrev E := BitVec 128
/-- times x -/
def T (z : E) : E := (z >>> 1) ^^^ (if z.getLsbD 0 then 0xe1000000000000000000000000000000#128 else 0#128)
/-- times x to the power of n -/
def Tn : Nat → E → E
  | 0, z => z
  | n + 1, z => T (Tn n z)
/-- the element 1 -/
def e0 : E := 0x80000000000000000000000000000000#128
/-- a sum of powers of x times v, as the factors say -/
def comb (c : Nat → Bool) (v : E) : Nat → E
  | 0 => 0#128
  | n + 1 => comb c v n ^^^ (if c n then Tn n v else 0#128)
/-- the factor of x to the power of i -/
def coef (a : E) (i : Nat) : Bool := a.getLsbD (127 - i)
/-- the product -/
def fmul (a b : E) : E := comb (coef a) b 128

theorem T_zero : T 0#128 = 0#128 := by decide
theorem xor_cross (a b c d : E) : (a ^^^ b) ^^^ (c ^^^ d) = (a ^^^ c) ^^^ (b ^^^ d) := by
  rw [BitVec.xor_assoc, BitVec.xor_assoc, ← BitVec.xor_assoc b, ← BitVec.xor_assoc c, BitVec.xor_comm b c]
theorem T_xor (x y : E) : T (x ^^^ y) = T x ^^^ T y := by
  unfold T
  rw [BitVec.getLsbD_xor, BitVec.ushiftRight_xor_distrib, xor_cross]
  congr 1
  cases x.getLsbD 0 <;> cases y.getLsbD 0 <;> simp
theorem Tn_zero (n : Nat) : Tn n 0#128 = 0#128 := by
  induction n with
  | zero => rfl
  | succ n ih => rw [Tn, ih, T_zero]
theorem Tn_xor (n : Nat) (x y : E) : Tn n (x ^^^ y) = Tn n x ^^^ Tn n y := by
  induction n with
  | zero => rfl
  | succ n ih => rw [Tn, ih, T_xor]; rfl
theorem Tn_add (m n : Nat) (x : E) : Tn (m + n) x = Tn m (Tn n x) := by
  induction m with
  | zero => rw [Nat.zero_add]; rfl
  | succ m ih => rw [Nat.add_right_comm, Tn, ih]; rfl
theorem Tn_comm (m n : Nat) (x : E) : Tn m (Tn n x) = Tn n (Tn m x) := by rw [← Tn_add, Nat.add_comm, Tn_add]
theorem comb_zero (c : Nat → Bool) (n : Nat) : comb c 0#128 n = 0#128 := by
  induction n with
  | zero => rfl
  | succ n ih => simp [comb, ih, Tn_zero]
theorem comb_xor (c : Nat → Bool) (x y : E) (n : Nat) : comb c (x ^^^ y) n = comb c x n ^^^ comb c y n := by
  induction n with
  | zero => simp [comb]
  | succ n ih =>
    rw [comb, comb, comb, ih, xor_cross]
    congr 1
    cases c n <;> simp [Tn_xor]
theorem comb_Tn (c : Nat → Bool) (m : Nat) (v : E) (n : Nat) : Tn m (comb c v n) = comb c (Tn m v) n := by
  induction n with
  | zero => exact Tn_zero m
  | succ n ih =>
    rw [comb, comb, Tn_xor, ih]
    congr 1
    cases c n
    · simp [Tn_zero]
    · simp only [if_true]; exact Tn_comm m n v
theorem comb_swap (c d : Nat → Bool) (v : E) (m n : Nat) : comb c (comb d v m) n = comb d (comb c v n) m := by
  induction n with
  | zero => rw [comb, comb, comb_zero]
  | succ n ih =>
    rw [comb, comb, comb_xor, ih]
    congr 1
    cases c n
    · simp [comb_zero]
    · simp only [if_true]; exact comb_Tn d n v m
theorem comb_congr (c d : Nat → Bool) (v : E) (n : Nat) (h : ∀ i, i < n → c i = d i) : comb c v n = comb d v n := by
  induction n with
  | zero => rfl
  | succ n ih => rw [comb, comb, ih (fun i hi => h i (by omega)), h n (by omega)]

/-- the powers of x below the 128th are single bits -/
theorem Tn_e0 : ∀ n, n < 128 → Tn n e0 = 1#128 <<< (127 - n) := by decide +kernel
theorem Tn128_e0 : Tn 128 e0 = e0 ^^^ T e0 ^^^ Tn 2 e0 ^^^ Tn 7 e0 := by decide +kernel

theorem comb_e0_bit (c : Nat → Bool) (n : Nat) (hn : n ≤ 128) (j : Nat) (hj : j < 128) : (comb c e0 n).getLsbD (127 - j) = (decide (j < n) && c j) := by
  induction n with
  | zero => simp [comb]
  | succ n ih =>
    rw [comb, BitVec.getLsbD_xor, ih (by omega)]
    have hb : (if c n then Tn n e0 else 0#128).getLsbD (127 - j) = (c n && decide (j = n)) := by
      cases c n
      · simp
      · simp only [if_true, Bool.true_and]
        rw [Tn_e0 n (by omega), BitVec.getLsbD_shiftLeft]
        by_cases h : j = n
        · subst h; simp; omega
        · simp [h]; omega
    rw [hb]
    by_cases h : j = n
    · subst h; simp
    · have h1 : decide (j < n + 1) = decide (j < n) := by simp; omega
      simp [h, h1]
/-- an element is the sum of its own powers -/
theorem comb_coef (a : E) : comb (coef a) e0 128 = a := by
  apply BitVec.eq_of_getLsbD_eq
  intro i hi
  have h := comb_e0_bit (coef a) 128 (Nat.le_refl _) (127 - i) (by omega)
  rw [show 127 - (127 - i) = i by omega] at h
  rw [h]
  simp only [coef, show 127 - (127 - i) = i by omega]
  simp; omega
theorem fmul_comm (a b : E) : fmul a b = fmul b a := by
  have h : fmul a (comb (coef b) e0 128) = fmul b (comb (coef a) e0 128) := comb_swap (coef a) (coef b) e0 128 128
  rwa [comb_coef, comb_coef] at h
theorem fmul_assoc (a b c : E) : fmul (fmul a b) c = fmul a (fmul b c) := by
  rw [fmul_comm (fmul a b) c, fmul_comm b c]
  exact comb_swap (coef c) (coef a) b 128 128
theorem fmul_xor (a b c : E) : fmul a (b ^^^ c) = fmul a b ^^^ fmul a c := comb_xor (coef a) b c 128
theorem fmul_xor_left (a b c : E) : fmul (a ^^^ b) c = fmul a c ^^^ fmul b c := by
  rw [fmul_comm, fmul_xor, fmul_comm c a, fmul_comm c b]
theorem fmul_zero (a : E) : fmul a 0#128 = 0#128 := comb_zero _ _
theorem fmul_e0 (a : E) : fmul a e0 = a := comb_coef a
end Go.Proofs.YtcbhnfljpbnipaaDoor
