/- BITS OF TEXTS: numbers made of runs of bits. No program in sight. -/
import Derived.Test.YtgpjpdeiogopfaaPs
namespace Go.Proofs.Ytgpjpdeiogopfaa
/-- a stream of bits: numbers below two -/
abbrev Bits := Nat → Nat
/-- the number that l bits from place a on tell -/
def vb (f : Bits) (a : Nat) : Nat → Nat
  | 0 => 0
  | l + 1 => 2 * vb f a l + f (a + l)
theorem vb_lt (f : Bits) (hf : ∀ i, f i < 2) (a l : Nat) : vb f a l < 2 ^ l := by
  induction l with
  | zero => simp [vb]
  | succ l ih => have := hf (a + l); rw [vb, Nat.pow_succ]; omega
theorem vb_add (f : Bits) (a l m : Nat) : vb f a (l + m) = vb f a l * 2 ^ m + vb f (a + l) m := by
  induction m with
  | zero => simp [vb]
  | succ m ih =>
    rw [← Nat.add_assoc, vb, ih, vb, Nat.pow_succ, Nat.add_assoc a l m, Nat.mul_add]
    have : 2 * (vb f a l * 2 ^ m) = vb f a l * (2 ^ m * 2) := by rw [Nat.mul_comm 2, Nat.mul_assoc]
    omega
theorem vb_high (f : Bits) (hf : ∀ i, f i < 2) (a l m : Nat) : vb f a (l + m) / 2 ^ m = vb f a l := by
  have h := vb_lt f hf (a + l) m
  have hp : 0 < 2 ^ m := Nat.pow_pos (by decide)
  rw [vb_add, Nat.mul_comm, Nat.mul_add_div hp, Nat.div_eq_of_lt h, Nat.add_zero]
theorem vb_low (f : Bits) (hf : ∀ i, f i < 2) (a l m : Nat) : vb f a (l + m) % 2 ^ m = vb f (a + l) m := by
  have h := vb_lt f hf (a + l) m
  rw [vb_add, Nat.mul_comm, Nat.mul_add_mod, Nat.mod_eq_of_lt h]
theorem vb_congr (f g : Bits) (a b l : Nat) (h : ∀ i, i < l → f (a + i) = g (b + i)) : vb f a l = vb g b l := by
  induction l with
  | zero => rfl
  | succ l ih => rw [vb, vb, ih (fun i hi => h i (by omega)), h l (by omega)]
theorem vb_zero (f : Bits) (a l : Nat) (h : ∀ i, i < l → f (a + i) = 0) : vb f a l = 0 := by
  induction l with
  | zero => rfl
  | succ l ih => rw [vb, ih (fun i hi => h i (by omega)), h l (by omega)]
theorem vb_zero_iff (f : Bits) (a l : Nat) : vb f a l = 0 ↔ ∀ i, i < l → f (a + i) = 0 := by
  constructor
  · intro h
    induction l with
    | zero => intro i hi; omega
    | succ l ih =>
      rw [vb] at h
      intro i hi
      by_cases hil : i = l
      · subst hil; omega
      · exact ih (by omega) i (by omega)
  · exact vb_zero f a l
/-- the bits of a number of w bits, the highest first -/
def bitOf (w n i : Nat) : Nat := n / 2 ^ (w - 1 - i) % 2
theorem bitOf_lt (w n i : Nat) : bitOf w n i < 2 := Nat.mod_lt _ (by decide)
theorem vb_bitOf (f : Bits) (a w n : Nat) (hn : n < 2 ^ w) (h : ∀ i, i < w → f (a + i) = bitOf w n i) : ∀ l, l ≤ w → vb f a l = n / 2 ^ (w - l) := by
  intro l
  induction l with
  | zero => intro _; rw [vb, Nat.sub_zero, Nat.div_eq_of_lt hn]
  | succ l ih =>
    intro hl
    rw [vb, ih (by omega), h l (by omega), bitOf]
    obtain ⟨d, rfl⟩ : ∃ d, w = l + 1 + d := ⟨w - (l + 1), by omega⟩
    have e1 : l + 1 + d - l = d + 1 := by omega
    have e2 : l + 1 + d - 1 - l = d := by omega
    have e3 : l + 1 + d - (l + 1) = d := by omega
    rw [e1, e2, e3, Nat.pow_succ, ← Nat.div_div_eq_div_mul]
    omega
theorem vb_whole (f : Bits) (a w n : Nat) (hn : n < 2 ^ w) (h : ∀ i, i < w → f (a + i) = bitOf w n i) : vb f a w = n := by
  rw [vb_bitOf f a w n hn h w (Nat.le_refl _), Nat.sub_self, Nat.pow_zero, Nat.div_one]
/-- a run's bits are the bits of its number -/
theorem bitOf_vb (f : Bits) (hf : ∀ i, f i < 2) (a w i : Nat) (hi : i < w) : bitOf w (vb f a w) i = f (a + i) := by
  obtain ⟨d, rfl⟩ : ∃ d, w = (i + 1) + d := ⟨w - (i + 1), by omega⟩
  have e1 : i + 1 + d - 1 - i = d := by omega
  rw [bitOf, e1, vb_high f hf, vb]
  have := hf (a + i)
  omega
/-- a stream of numbers of w bits each -/
def strm (w : Nat) (g : Nat → Nat) : Bits := fun i => bitOf w (g (i / w)) (i % w)
theorem strm_lt (w : Nat) (g : Nat → Nat) : ∀ i, strm w g i < 2 := fun _ => bitOf_lt ..
theorem strm_whole (w : Nat) (hw : 0 < w) (g : Nat → Nat) (i : Nat) (hg : g i < 2 ^ w) : vb (strm w g) (w * i) w = g i := by
  refine vb_whole _ _ _ _ hg (fun j hj => ?_)
  unfold strm
  rw [Nat.mul_add_div hw, Nat.div_eq_of_lt hj, Nat.mul_add_mod, Nat.mod_eq_of_lt hj, Nat.add_zero]
/-- a stream told again in numbers of v bits is the stream -/
theorem strm_again (f : Bits) (hf : ∀ i, f i < 2) (v : Nat) (hv : 0 < v) (g : Nat → Nat) (m : Nat) (hg : ∀ j, j < m → g j = vb f (v * j) v) (i : Nat) (hi : i < v * m) : strm v g i = f i := by
  have h1 : i / v < m := (Nat.div_lt_iff_lt_mul hv).2 (by rw [Nat.mul_comm]; exact hi)
  unfold strm
  rw [hg _ h1, bitOf_vb f hf _ _ _ (Nat.mod_lt _ hv)]
  congr 1
  exact Nat.div_add_mod i v
end Go.Proofs.Ytgpjpdeiogopfaa
