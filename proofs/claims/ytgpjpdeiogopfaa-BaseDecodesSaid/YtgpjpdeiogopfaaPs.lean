/- PLAIN WORDS: lists that are filled place by place. No program in sight. -/
import Derived.Test.YtgpjpdeiogopfaaBv
namespace Go.Proofs.Ytgpjpdeiogopfaa
def zeros (n : Nat) : List UInt8 := List.replicate n 0
theorem zeros_length (n : Nat) : (zeros n).length = n := List.length_replicate ..
/-- the first k places filled by f -/
def fill (f : Nat → UInt8) (l : List UInt8) : Nat → List UInt8
  | 0 => l
  | k + 1 => (fill f l k).set k (f k)
theorem fill_length (f : Nat → UInt8) (l : List UInt8) (k : Nat) : (fill f l k).length = l.length := by
  induction k with
  | zero => rfl
  | succ k ih => simp [fill, ih]
theorem fill_get (f : Nat → UInt8) (l : List UInt8) (k i : Nat) (hk : k ≤ l.length) : (fill f l k)[i]? = if i < k then some (f i) else l[i]? := by
  induction k with
  | zero => simp [fill]
  | succ k ih =>
    rw [fill]
    by_cases h : k = i
    · subst h
      rw [List.getElem?_set_self (by rw [fill_length]; omega), if_pos (by omega)]
    · rw [List.getElem?_set_ne h, ih (by omega)]
      by_cases h2 : i < k
      · rw [if_pos h2, if_pos (by omega)]
      · rw [if_neg h2, if_neg (by omega)]
theorem fill_all (f : Nat → UInt8) (l : List UInt8) : fill f l l.length = (List.range l.length).map f := by
  apply List.ext_getElem?
  intro i
  rw [fill_get f l l.length i (Nat.le_refl _), List.getElem?_map]
  by_cases h : i < l.length
  · rw [if_pos h, List.getElem?_range h]; rfl
  · rw [if_neg h, List.getElem?_eq_none (by omega), List.getElem?_eq_none (by simpa using h)]; rfl
/-- a byte of a text -/
def byteAt (s : ByteArray) (i : Nat) : UInt8 := s.data.toList[i]?.getD 0
theorem byteAt_get (s : ByteArray) (i : Nat) (h : i < s.size) : s[i] = byteAt s i := by
  have h' : i < s.data.toList.length := by simpa using h
  unfold byteAt
  rw [List.getElem?_eq_getElem h']; rfl
theorem ba_ext {s t : ByteArray} (h : s.data.toList = t.data.toList) : s = t := by
  cases s; cases t; congr 1; exact Array.toList_inj.1 h
theorem list_byteAt (s : ByteArray) : s.data.toList = (List.range s.size).map (byteAt s) := by
  have hs : s.data.toList.length = s.size := by simp
  apply List.ext_getElem?
  intro i
  rw [List.getElem?_map]
  by_cases h : i < s.size
  · rw [List.getElem?_range h, List.getElem?_eq_getElem (by omega)]
    show _ = some (byteAt s i)
    unfold byteAt
    rw [List.getElem?_eq_getElem (by omega)]; rfl
  · rw [List.getElem?_eq_none (by omega), List.getElem?_eq_none (by simpa using h)]; rfl
end Go.Proofs.Ytgpjpdeiogopfaa
