/- THE REFERENCE's PRODUCT IS THE FIELD's. -/
import Derived.Test.YtcbhnfljpbnipaaDoorG1
import Derived.Test.YtcbhnfljpbnipaaDoorW6
namespace Go.Proofs.YtcbhnfljpbnipaaDoor
/-- the factors that a list of truths tells -/
def lc (p : List Bool) (i : Nat) : Bool := p[i]?.getD false
theorem comb_flip (p : List Bool) (j : Nat) (x : Bool) (v : E) (hj : j < p.length) (n : Nat) :
    comb (lc (p.set j (lc p j != x))) v n = comb (lc p) v n ^^^ (if j < n ∧ x = true then Tn j v else 0#128) := by
  induction n with
  | zero => simp [comb]
  | succ n ih =>
    rw [comb, comb, ih, BitVec.xor_assoc, BitVec.xor_assoc]
    congr 1
    by_cases h : j = n
    · subst h
      have h1 : lc (p.set j (lc p j != x)) j = (lc p j != x) := by
        show (p.set j _)[j]?.getD false = _
        rw [List.getElem?_set_self hj]; rfl
      rw [h1]
      have h2 : ¬ (j < j ∧ x = true) := fun h => Nat.lt_irrefl _ h.1
      have h3 : (j < j + 1 ∧ x = true) ↔ x = true := ⟨fun h => h.2, fun h => ⟨Nat.lt_succ_self _, h⟩⟩
      rw [if_neg h2]
      cases lc p j <;> cases x <;> simp
    · have h1 : lc (p.set j (lc p j != x)) n = lc p n := by
        show (p.set j _)[n]?.getD false = _
        rw [List.getElem?_set_ne h]; rfl
      have h2 : (j < n + 1 ∧ x = true) ↔ (j < n ∧ x = true) := ⟨fun h => ⟨by have := h.1; omega, h.2⟩, fun h => ⟨by have := h.1; omega, h.2⟩⟩
      rw [h1, BitVec.xor_comm]
      congr 1
      simp only [h2]
theorem inn_E (p b : List Bool) (i k : Nat) (hp : i + k ≤ p.length) (n : Nat) (hn : i + k ≤ n) :
    comb (lc (inn p b i k)) e0 n = comb (lc p) e0 n ^^^ Tn i (comb (lc b) e0 k) := by
  induction k with
  | zero => simp [inn, comb, Tn_zero]
  | succ k ih =>
    show comb (lc ((inn p b i k).set (i + k) (lc (inn p b i k) (i + k) != lc b k))) e0 n = _
    rw [comb_flip _ _ _ _ (by rw [inn_length]; omega), ih (by omega) (by omega), comb, Tn_xor, BitVec.xor_assoc]
    congr 2
    have : i + k < n := by omega
    cases lc b k
    · simp [Tn_zero]
    · simp only [and_true, this, if_true]; exact Tn_add i k e0
theorem t1_E (a b : List Bool) (i : Nat) (hi : i ≤ 128) : comb (lc (t1 a b i)) e0 255 = comb (lc a) (comb (lc b) e0 128) i := by
  induction i with
  | zero =>
    show comb (lc (List.replicate 255 false)) e0 255 = 0#128
    have : ∀ n, comb (lc (List.replicate 255 false)) e0 n = 0#128 := by
      intro n
      induction n with
      | zero => rfl
      | succ n ih =>
        have h : lc (List.replicate 255 false) n = false := by
          show (List.replicate 255 false)[n]?.getD false = false
          rw [List.getElem?_replicate]; split <;> rfl
        rw [comb, ih, h]; simp
    exact this 255
  | succ i ih =>
    show comb (lc (if lc a i then inn (t1 a b i) b i 128 else t1 a b i)) e0 255 = comb (lc a) (comb (lc b) e0 128) i ^^^ _
    by_cases h : lc a i = true
    · rw [if_pos h, if_pos h, inn_E _ _ _ _ (by rw [t1_length]; omega) _ (by omega), ih (by omega)]
    · rw [if_neg h, if_neg h, ih (by omega), BitVec.xor_zero]
theorem flips_E (p : List Bool) (m : Nat) (hp : p.length = 255) (hm : m ≤ 126) :
    comb (lc (flips p (m + 128))) e0 (m + 128) = comb (lc p) e0 (m + 128) ^^^ Tn (m + 128) e0 := by
  have n1 : ∀ x : Bool, (!x) = (x != true) := by decide
  have s0 : ∀ (q : List Bool) (j : Nat), q.set j (!lc q j) = q.set j (lc q j != true) := fun q j => by rw [n1]
  have g : ∀ (q : List Bool) (i j : Nat) (x : Bool), i ≠ j → lc (q.set i x) j = lc q j := fun q i j x h => by
    show (q.set i x)[j]?.getD false = _
    rw [List.getElem?_set_ne h]; rfl
  have hf : flips p (m + 128) = (((p.set m (lc p m != true)).set (m + 1) (lc (p.set m (lc p m != true)) (m + 1) != true)).set (m + 2) (lc ((p.set m (lc p m != true)).set (m + 1) (lc (p.set m (lc p m != true)) (m + 1) != true)) (m + 2) != true)).set (m + 7) (lc (((p.set m (lc p m != true)).set (m + 1) (lc (p.set m (lc p m != true)) (m + 1) != true)).set (m + 2) (lc ((p.set m (lc p m != true)).set (m + 1) (lc (p.set m (lc p m != true)) (m + 1) != true)) (m + 2) != true)) (m + 7) != true) := by
    rw [g _ m (m + 1) _ (by omega), g _ (m + 1) (m + 2) _ (by omega), g _ m (m + 2) _ (by omega), g _ (m + 2) (m + 7) _ (by omega), g _ (m + 1) (m + 7) _ (by omega), g _ m (m + 7) _ (by omega)]
    rw [← n1, ← n1, ← n1, ← n1]
    unfold flips
    rw [show m + 128 - 128 = m by omega, show m + 128 - 127 = m + 1 by omega, show m + 128 - 126 = m + 2 by omega, show m + 128 - 121 = m + 7 by omega]
    rfl
  rw [hf, comb_flip _ _ _ _ (by simp; omega), comb_flip _ _ _ _ (by simp; omega), comb_flip _ _ _ _ (by simp; omega), comb_flip _ _ _ _ (by omega)]
  have t : Tn (m + 128) e0 = Tn m e0 ^^^ Tn (m + 1) e0 ^^^ Tn (m + 2) e0 ^^^ Tn (m + 7) e0 := by
    rw [Tn_add m 128, Tn128_e0, Tn_xor, Tn_xor, Tn_xor, Tn_add m 2, Tn_add m 7, Tn_add m 1]; rfl
  have b0 : m < m + 128 := by omega
  have b1 : m + 1 < m + 128 := by omega
  have b2 : m + 2 < m + 128 := by omega
  have b7 : m + 7 < m + 128 := by omega
  simp only [b0, b1, b2, b7, and_self, if_true]
  rw [t, BitVec.xor_assoc, BitVec.xor_assoc, BitVec.xor_assoc, BitVec.xor_assoc, BitVec.xor_assoc]
theorem red_E (p : List Bool) (hp : p.length = 255) (j : Nat) (hj : j ≤ 127) : comb (lc (red p j)) e0 (255 - j) = comb (lc p) e0 255 := by
  induction j with
  | zero => rfl
  | succ j ih =>
    rw [← ih (by omega)]
    obtain ⟨m, hm⟩ : ∃ m, 254 - j = m + 128 := ⟨126 - j, by omega⟩
    rw [show 255 - (j + 1) = m + 128 by omega, show 255 - j = (m + 128) + 1 by omega]
    have hc : comb (lc (red p j)) e0 (m + 128 + 1) = comb (lc (red p j)) e0 (m + 128) ^^^ (if lc (red p j) (m + 128) then Tn (m + 128) e0 else 0#128) := rfl
    rw [hc]
    show comb (lc (if lc (red p j) (254 - j) then flips (red p j) (254 - j) else red p j)) e0 (m + 128) = _
    rw [hm]
    by_cases h : lc (red p j) (m + 128) = true
    · rw [if_pos h, if_pos h, flips_E _ _ (by rw [red_length, hp]) (by omega)]
    · rw [if_neg h, if_neg h, BitVec.xor_zero]
theorem outTo_lc (p : List Bool) (n : Nat) : ∀ i, lc (outTo p n) i = if i < n ∧ i < 128 then lc p i else false := by
  induction n with
  | zero =>
    intro i
    have h : (List.replicate 128 false)[i]?.getD false = false := by rw [List.getElem?_replicate]; split <;> rfl
    rw [if_neg (by omega)]
    exact h
  | succ n ih =>
    intro i
    show ((outTo p n).set n (lc p n))[i]?.getD false = _
    by_cases h : n = i
    · subst h
      by_cases h2 : n < 128
      · rw [List.getElem?_set_self (by rw [outTo_length]; exact h2), if_pos ⟨by omega, h2⟩]; rfl
      · rw [List.getElem?_eq_none (by rw [List.length_set, outTo_length]; omega), if_neg (by omega)]; rfl
    · rw [List.getElem?_set_ne h]
      have := ih i
      show lc (outTo p n) i = _
      rw [this]
      have h2 : (i < n + 1 ∧ i < 128) ↔ (i < n ∧ i < 128) := by omega
      simp only [h2]
/-- THE REFERENCE's PRODUCT. -/
theorem timesR_E (a b : List Bool) : comb (lc (timesR a b)) e0 128 = fmul (comb (lc a) e0 128) (comb (lc b) e0 128) := by
  unfold timesR
  rw [comb_congr (lc (outTo (red (t1 a b 128) 127) 128)) (lc (red (t1 a b 128) 127)) e0 128 (fun i hi => by rw [outTo_lc, if_pos ⟨hi, hi⟩])]
  have h := red_E (t1 a b 128) (t1_length a b 128) 127 (Nat.le_refl _)
  have h2 := t1_E a b 128 (Nat.le_refl _)
  rw [← h] at h2
  refine h2.trans ?_
  refine comb_congr _ _ _ _ (fun i hi => ?_)
  unfold coef
  rw [comb_e0_bit (lc a) 128 (Nat.le_refl _) i hi]
  simp [hi]
end Go.Proofs.YtcbhnfljpbnipaaDoor
