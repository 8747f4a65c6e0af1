/- BYTES TOLD BY SIXTY-FOUR SIGNS, AND BACK: plain words and their laws. No program in sight. -/
import Derived.Test.YtgpjpdeiogopfaaB1
namespace Go.Proofs.Ytgpjpdeiogopfaa
/-- the sign of a number below 64 -/
def sgn (n : Nat) : UInt8 := if n < 26 then UInt8.ofNat (65 + n) else if n < 52 then UInt8.ofNat (71 + n) else if n < 62 then UInt8.ofNat (n - 4) else if n = 62 then 45 else 95
/-- the number of a sign; 64: it is none -/
def num (c : UInt8) : Nat := if 65 ≤ c.toNat ∧ c.toNat ≤ 90 then c.toNat - 65 else if 97 ≤ c.toNat ∧ c.toNat ≤ 122 then c.toNat - 71 else if 48 ≤ c.toNat ∧ c.toNat ≤ 57 then c.toNat + 4 else if c.toNat = 45 then 62 else if c.toNat = 95 then 63 else 64
theorem num_sgn (n : Nat) (h : n < 64) : num (sgn n) = n := by
  have hall : ∀ m : Fin 64, num (sgn m.val) = m.val := by decide +kernel
  exact hall ⟨n, h⟩
theorem sgn_num (c : UInt8) (h : num c < 64) : sgn (num c) = c := by
  have hall : ∀ m : Fin 256, num (UInt8.ofNat m.val) < 64 → sgn (num (UInt8.ofNat m.val)) = UInt8.ofNat m.val := by decide +kernel
  have := hall ⟨c.toNat, c.toNat_lt⟩
  simp only [UInt8.ofNat_toNat] at this
  exact this h
theorem num_le (c : UInt8) : num c ≤ 64 := by
  unfold num
  have := c.toNat_lt
  split
  · omega
  · split
    · omega
    · split
      · omega
      · split
        · omega
        · split <;> omega
/-- the bits of a text -/
def sbits (s : ByteArray) : Bits := strm 8 (fun i => (byteAt s i).toNat)
/-- the bits that signs tell -/
def dbits (s : ByteArray) : Bits := strm 6 (fun i => num (byteAt s i))
theorem sbits_lt (s : ByteArray) : ∀ i, sbits s i < 2 := strm_lt _ _
theorem dbits_lt (s : ByteArray) : ∀ i, dbits s i < 2 := strm_lt _ _
theorem byteAt_none (s : ByteArray) (i : Nat) (h : s.size ≤ i) : byteAt s i = 0 := by
  have : s.data.toList.length = s.size := by simp
  unfold byteAt
  rw [List.getElem?_eq_none (by omega)]; rfl
theorem sbits_none (s : ByteArray) (i : Nat) (h : 8 * s.size ≤ i) : sbits s i = 0 := by
  unfold sbits strm bitOf
  show (byteAt s (i / 8)).toNat / _ % 2 = 0
  rw [byteAt_none s (i / 8) (by omega)]
  show 0 / _ % 2 = 0
  rw [Nat.zero_div]
def encL (s : ByteArray) : List UInt8 := (List.range ((8 * s.size + 5) / 6)).map fun j => sgn (vb (sbits s) (6 * j) 6)
def decL (s : ByteArray) : List UInt8 := (List.range (6 * s.size / 8)).map fun j => UInt8.ofNat (vb (dbits s) (8 * j) 8)
def enc (s : ByteArray) : ByteArray := ⟨(encL s).toArray⟩
def decB (s : ByteArray) : ByteArray := ⟨(decL s).toArray⟩
theorem enc_size (s : ByteArray) : (enc s).size = (8 * s.size + 5) / 6 := by
  show (encL s).toArray.size = _
  simp [encL]
theorem decB_size (s : ByteArray) : (decB s).size = 6 * s.size / 8 := by
  show (decL s).toArray.size = _
  simp [decL]
theorem enc_at (s : ByteArray) (j : Nat) (h : j < (8 * s.size + 5) / 6) : byteAt (enc s) j = sgn (vb (sbits s) (6 * j) 6) := by
  unfold byteAt
  show ((encL s).toArray.toList[j]?).getD 0 = _
  rw [List.toList_toArray, encL, List.getElem?_map, List.getElem?_range h]; rfl
theorem decB_at (s : ByteArray) (j : Nat) (h : j < 6 * s.size / 8) : byteAt (decB s) j = UInt8.ofNat (vb (dbits s) (8 * j) 8) := by
  unfold byteAt
  show ((decL s).toArray.toList[j]?).getD 0 = _
  rw [List.toList_toArray, decL, List.getElem?_map, List.getElem?_range h]; rfl
/-- the signs that are none -/
def allGood (s : ByteArray) : Prop := ∀ i, i < s.size → num (byteAt s i) < 64
/-- what is left of the bits behind the last whole byte -/
def left (s : ByteArray) : Nat := vb (dbits s) (8 * (6 * s.size / 8)) (6 * s.size - 8 * (6 * s.size / 8))
def good (s : ByteArray) : Prop := allGood s ∧ s.size % 4 ≠ 1 ∧ left s = 0
theorem ba_at_ext {s t : ByteArray} (hs : s.size = t.size) (h : ∀ i, i < s.size → byteAt s i = byteAt t i) : s = t := by
  apply ba_ext
  rw [list_byteAt s, list_byteAt t, ← hs]
  exact List.map_congr_left (fun i hi => h i (by simpa using hi))
theorem dbits_enc (s : ByteArray) (i : Nat) (h : i < 6 * ((8 * s.size + 5) / 6)) : dbits (enc s) i = sbits s i := by
  refine strm_again (sbits s) (sbits_lt s) 6 (by decide) _ ((8 * s.size + 5) / 6) (fun j hj => ?_) i h
  show num (byteAt (enc s) j) = _
  rw [enc_at s j hj, num_sgn]
  exact vb_lt _ (sbits_lt s) _ 6
theorem good_enc (s : ByteArray) : good (enc s) := by
  refine ⟨fun i hi => ?_, ?_, ?_⟩
  · rw [enc_size] at hi
    rw [enc_at s i hi, num_sgn]
    · exact vb_lt _ (sbits_lt s) _ 6
    · exact vb_lt _ (sbits_lt s) _ 6
  · rw [enc_size]; omega
  · unfold left
    rw [enc_size]
    refine vb_zero _ _ _ (fun i hi => ?_)
    rw [dbits_enc s _ (by omega), sbits_none s _ (by omega)]
/-- told and read again -/
theorem decB_enc (s : ByteArray) : decB (enc s) = s := by
  have hn : 6 * ((8 * s.size + 5) / 6) / 8 = s.size := by omega
  refine ba_at_ext (by rw [decB_size, enc_size, hn]) (fun i hi => ?_)
  rw [decB_size, enc_size, hn] at hi
  rw [decB_at _ _ (by rw [enc_size, hn]; exact hi)]
  have h1 : vb (dbits (enc s)) (8 * i) 8 = vb (sbits s) (8 * i) 8 := vb_congr _ _ _ _ _ (fun j hj => dbits_enc s _ (by omega))
  have h2 : vb (sbits s) (8 * i) 8 = (byteAt s i).toNat := strm_whole 8 (by decide) _ i (byteAt s i).toNat_lt
  rw [h1, h2, UInt8.ofNat_toNat]
theorem sbits_decB (s : ByteArray) (hl : left s = 0) (i : Nat) (h : i < 6 * s.size) : sbits (decB s) i = dbits s i := by
  by_cases h8 : i < 8 * (6 * s.size / 8)
  · refine strm_again (dbits s) (dbits_lt s) 8 (by decide) _ (6 * s.size / 8) (fun j hj => ?_) i h8
    show (byteAt (decB s) j).toNat = _
    have := vb_lt _ (dbits_lt s) (8 * j) 8
    rw [decB_at s j hj, UInt8.toNat_ofNat', Nat.mod_eq_of_lt this]
  · rw [sbits_none _ _ (by rw [decB_size]; omega)]
    have h3 := (vb_zero_iff (dbits s) (8 * (6 * s.size / 8)) (6 * s.size - 8 * (6 * s.size / 8))).1 hl (i - 8 * (6 * s.size / 8)) (by omega)
    have e : 8 * (6 * s.size / 8) + (i - 8 * (6 * s.size / 8)) = i := by omega
    rw [e] at h3
    exact h3.symm
/-- read and told again -/
theorem enc_decB (s : ByteArray) (h : good s) : enc (decB s) = s := by
  obtain ⟨hg, h4, hl⟩ := h
  have hm : (8 * (6 * s.size / 8) + 5) / 6 = s.size := by
    obtain ⟨q, hq⟩ : ∃ q, s.size = 4 * q ∨ s.size = 4 * q + 2 ∨ s.size = 4 * q + 3 := ⟨s.size / 4, by omega⟩
    rcases hq with h | h | h <;> rw [h] <;> omega
  refine ba_at_ext (by rw [enc_size, decB_size, hm]) (fun i hi => ?_)
  rw [enc_size, decB_size, hm] at hi
  rw [enc_at _ _ (by rw [decB_size, hm]; exact hi)]
  have h1 : vb (sbits (decB s)) (6 * i) 6 = vb (dbits s) (6 * i) 6 := vb_congr _ _ _ _ _ (fun j hj => sbits_decB s hl _ (by omega))
  have h2 : vb (dbits s) (6 * i) 6 = num (byteAt s i) := strm_whole 6 (by decide) _ i (hg i hi)
  rw [h1, h2, sgn_num _ (hg i hi)]
/-- what is read tells what was told -/
theorem decB_inj (s t : ByteArray) (hs : good s) (ht : good t) : decB s = decB t ↔ s = t := by
  constructor
  · intro h
    rw [← enc_decB s hs, ← enc_decB t ht, h]
  · intro h; rw [h]
end Go.Proofs.Ytgpjpdeiogopfaa
