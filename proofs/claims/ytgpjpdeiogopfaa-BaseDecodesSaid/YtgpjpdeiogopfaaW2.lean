/- base.Encode. -/
import Derived.Test.YtgpjpdeiogopfaaW1
import Derived.Test.YtgpjpdeiogopfaaB2
namespace Go.Proofs.Ytgpjpdeiogopfaa
open Go.RowKit
attribute [local go_sem] setCell_drewN alloc_drewN b64_byte
theorem or_low (x b : Nat) (hb : b < 256) : (x * 256 ||| b) = x * 256 + b := by
  have := Nat.shiftLeft_add_eq_or_of_lt (i := 8) (b := b) (by simpa using hb) x
  rw [Nat.shiftLeft_eq] at this
  exact this.symm
theorem and63 (x : Nat) (h : x < 18446744073709551616) : bits .and .u64 (x : Int) 63 = ((x % 64 : Nat) : Int) := by
  have h1 := u64_and_nat x 63 h (by decide)
  have h2 : x &&& 63 = x % 64 := Nat.and_two_pow_sub_one_eq_mod x 6
  rw [h2] at h1
  exact h1
def signsA : ByteArray := ⟨#[65, 66, 67, 68, 69, 70, 71, 72, 73, 74, 75, 76, 77, 78, 79, 80, 81, 82, 83, 84, 85, 86, 87, 88, 89, 90, 97, 98, 99, 100, 101, 102, 103, 104, 105, 106, 107, 108, 109, 110, 111, 112, 113, 114, 115, 116, 117, 118, 119, 120, 121, 122, 48, 49, 50, 51, 52, 53, 54, 55, 56, 57, 45, 95]⟩
theorem sign_at (n : Nat) (h : n < 64) (h' : n < (⟨#[65, 66, 67, 68, 69, 70, 71, 72, 73, 74, 75, 76, 77, 78, 79, 80, 81, 82, 83, 84, 85, 86, 87, 88, 89, 90, 97, 98, 99, 100, 101, 102, 103, 104, 105, 106, 107, 108, 109, 110, 111, 112, 113, 114, 115, 116, 117, 118, 119, 120, 121, 122, 48, 49, 50, 51, 52, 53, 54, 55, 56, 57, 45, 95]⟩ : ByteArray).size) : (⟨#[65, 66, 67, 68, 69, 70, 71, 72, 73, 74, 75, 76, 77, 78, 79, 80, 81, 82, 83, 84, 85, 86, 87, 88, 89, 90, 97, 98, 99, 100, 101, 102, 103, 104, 105, 106, 107, 108, 109, 110, 111, 112, 113, 114, 115, 116, 117, 118, 119, 120, 121, 122, 48, 49, 50, 51, 52, 53, 54, 55, 56, 57, 45, 95]⟩ : ByteArray)[n] = sgn n := by
  have hall : ∀ m : Fin 64, (⟨#[65, 66, 67, 68, 69, 70, 71, 72, 73, 74, 75, 76, 77, 78, 79, 80, 81, 82, 83, 84, 85, 86, 87, 88, 89, 90, 97, 98, 99, 100, 101, 102, 103, 104, 105, 106, 107, 108, 109, 110, 111, 112, 113, 114, 115, 116, 117, 118, 119, 120, 121, 122, 48, 49, 50, 51, 52, 53, 54, 55, 56, 57, 45, 95]⟩ : ByteArray)[m.val]'m.isLt = sgn m.val := by decide +kernel
  exact hall ⟨n, h⟩
/-- the first j signs -/
def en (s : ByteArray) (j : Nat) : List UInt8 := (List.range j).map fun j => sgn (vb (sbits s) (6 * j) 6)
theorem en_snoc (s : ByteArray) (j : Nat) : en s (j + 1) = en s j ++ [sgn (vb (sbits s) (6 * j) 6)] := by simp [en, List.range_succ]
theorem en_length (s : ByteArray) (j : Nat) : (en s j).length = j := by simp [en]
/-- a byte is taken in -/
theorem held_in (s : ByteArray) (h k j n : Nat) (hn : 6 * j + n = 8 * k) (hh : h % 2 ^ n = vb (sbits s) (6 * j) n) : (h * 256 + (byteAt s k).toNat) % 2 ^ (n + 8) = vb (sbits s) (6 * j) (n + 8) := by
  have h1 : vb (sbits s) (8 * k) 8 = (byteAt s k).toNat := strm_whole 8 (by decide) _ k (byteAt s k).toNat_lt
  have h2 := (byteAt s k).toNat_lt
  rw [vb_add, hn, h1, ← hh, Nat.pow_add, Nat.mul_comm (2 ^ n), Nat.mod_mul]
  have e : (2 : Nat) ^ 8 = 256 := rfl
  rw [e]
  have e1 : (h * 256 + (byteAt s k).toNat) % 256 = (byteAt s k).toNat := by omega
  have e2 : (h * 256 + (byteAt s k).toNat) / 256 = h := by omega
  rw [e1, e2]; omega
/-- six bits are given out -/
theorem held_out (s : ByteArray) (h j r : Nat) (hh : h % 2 ^ (6 + r) = vb (sbits s) (6 * j) (6 + r)) : h / 2 ^ r % 64 = vb (sbits s) (6 * j) 6 ∧ h % 2 ^ r = vb (sbits s) (6 * (j + 1)) r := by
  have h1 := vb_high (sbits s) (sbits_lt s) (6 * j) 6 r
  have h2 := vb_low (sbits s) (sbits_lt s) (6 * j) 6 r
  rw [← hh] at h1 h2
  constructor
  · rw [← h1, Nat.add_comm 6 r, Nat.pow_add, Nat.mod_mul_right_div_self]
  · rw [show 6 * (j + 1) = 6 * j + 6 by omega, ← h2, Nat.add_comm 6 r, Nat.pow_add, Nat.mod_mul_right_mod]
/-- the last bits are given out -/
theorem held_end (s : ByteArray) (h j n r : Nat) (hr : n + r = 6) (hn : 6 * j + n = 8 * s.size) (hh : h % 2 ^ n = vb (sbits s) (6 * j) n) : h * 2 ^ r % 64 = vb (sbits s) (6 * j) 6 := by
  have h0 : vb (sbits s) (6 * j + n) r = 0 := vb_zero _ _ _ (fun i hi => sbits_none s _ (by omega))
  have hv : vb (sbits s) (6 * j) 6 = vb (sbits s) (6 * j) (n + r) := by rw [hr]
  rw [hv, vb_add, h0, Nat.add_zero, ← hh]
  have e : 64 = 2 ^ n * 2 ^ r := by rw [← Nat.pow_add, hr]
  rw [e, Nat.mul_mod_mul_right]
set_option maxRecDepth 100000 in
set_option maxHeartbeats 1000000 in
theorem enc_t (W : World) (s : ByteArray) (hs : s.size ≤ 70368744175616) :
    Calls Try.prog 8 #[.string s] W fun e w' => e = .returned (.string (enc s)) ∧ Below W.heap.size W w' := by
  go_enter Try.func8, Try.ntmps8
  go_wp2
  go_loopw [4, 5, 6, 9] (fun hd nn _ i wr => ∃ k j n h : Nat, k ≤ s.size ∧ i = .int .i64 (k : Int) ∧ nn = .int .i64 (n : Int) ∧ hd = .int .u64 (h : Int) ∧ h < 64 ∧ n < 6 ∧ 6 * j + n = 8 * k ∧ h % 2 ^ n = vb (sbits s) (6 * j) n ∧ Lib.IsBuilder 34 5 W.heap.size W.heap.size (u8l (en s j)) wr ∧ Below W.heap.size W wr) (fun _ _ _ i _ => s.size - (intOf i).toNat)
  case atStart => exact ⟨0, 0, 0, 0, by omega, rfl, rfl, rfl, by decide, by decide, rfl, rfl, Lib.fresh_isBuilder 34 5 W, (Below.refl _ _).alloc (Nat.le_refl _) _⟩
  case round =>
    obtain ⟨k, j, n, h, hk, rfl, rfl, rfl, hh64, hn6, hjn, hh, hb, hbl⟩ := hrel
    have HB := Lib.hid hb; have HL := Lib.hid hbl
    clear hb hbl
    by_cases hlt : k < s.size
    · have hin := held_in s h k j n hjn hh
      have hb8 := (byteAt s k).toNat_lt
      obtain ⟨b, hb⟩ : ∃ b, b = byteAt s k := ⟨_, rfl⟩
      have hsk : s[k] = b := by rw [hb]; exact byteAt_get s k hlt
      rw [← hb] at hin hb8
      obtain ⟨h', hh'⟩ : ∃ h', h' = h * 256 + b.toNat := ⟨_, rfl⟩
      rw [← hh'] at hin
      have f1 : IntKind.u64.wrap ((h : Int) * 256) = ((h * 256 : Nat) : Int) := by rw [IntKind.wrap_u64, Int.emod_eq_of_lt] <;> omega
      have f2 : bits .or .u64 ((h * 256 : Nat) : Int) ((b.toNat : Nat) : Int) = (h' : Int) := by
        rw [u64_or_nat _ _ (by omega) (by omega), or_low _ _ hb8, hh']
      have f3 : h' < 18446744073709551616 := by omega
      obtain ⟨x, hx⟩ : ∃ x, x = h * 256 := ⟨_, rfl⟩
      rw [← hx] at f1 f2
      have HX := Lib.hid hx; have HH' := Lib.hid hh'; have HIN := Lib.hid hin; have HBB := Lib.hid hb; have HJN := Lib.hid hjn
      clear hx hh' hin hb hjn hh hb8
      go_wp2
      go_loopw [5] (fun nn wr => ∃ j n : Nat, nn = .int .i64 (n : Int) ∧ n < 14 ∧ 6 * j + n = 8 * k + 8 ∧ h' % 2 ^ n = vb (sbits s) (6 * j) n ∧ Lib.IsBuilder 34 5 W.heap.size W.heap.size (u8l (en s j)) wr ∧ Below W.heap.size W wr) (fun nn _ => (intOf nn).toNat)
      case atStart => exact ⟨j, n + 8, by go_num, by omega, by have := HJN.out; omega, HIN.out, HB.out, HL.out⟩
      case round =>
        obtain ⟨j, n, rfl, hn14, hjn, hh, hb, hbl⟩ := hrel
        have HB := Lib.hid hb; have HL := Lib.hid hbl
        clear hb hbl
        by_cases hge : 6 ≤ n
        · obtain ⟨r, hr⟩ : ∃ r, n = 6 + r := ⟨n - 6, by omega⟩
          rw [hr] at hh
          obtain ⟨ho1, ho2⟩ := held_out s h' j r hh
          have g1 : (n : Int) - 6 = (r : Int) := by omega
          have g2 : (6 : Int) ≤ (n : Int) := by omega
          obtain ⟨q, hq⟩ : ∃ q, q = h' / 2 ^ r := ⟨_, rfl⟩
          obtain ⟨c, hc⟩ : ∃ c, c = q % 64 := ⟨_, rfl⟩
          have g3 : (h' : Int) / 2 ^ r = (q : Int) := by rw [hq]; simp
          have hql : q ≤ h' := by rw [hq]; exact Nat.div_le_self _ _
          have g4 : bits .and .u64 (q : Int) 63 = (c : Int) := by rw [and63 q (by omega), hc]
          have g5 : c < 64 := by omega
          have hc6 : c = vb (sbits s) (6 * j) 6 := by rw [hc, hq, ho1]
          have g6 : r < 8 := by omega
          have hjn2 : 6 * (j + 1) + r = 8 * k + 8 := by omega
          have hj8 : j < 100000000000000 := by omega
          have HQ := Lib.hid hq; have HC := Lib.hid hc; have HR := Lib.hid hr; have HO2 := Lib.hid ho2; have HC6 := Lib.hid hc6; have HJ2 := Lib.hid hjn2; have HQL := Lib.hid hql
          clear hq hc hr hh ho1 ho2 hc6 hjn hjn2 hql
          go_wp2_with fail
          rw [sign_at c g5]
          refine (writeByte_t W.heap.size W.heap.size (u8l (en s j)) _ wr HB.out (by simp only [u8l, List.length_map, en_length]; omega) HL.out.size).mono ?_
          rintro e w1 ⟨rfl, h1, hb1'⟩
          rw [u8l_snoc, HC6.out, ← en_snoc] at h1
          have H1 := Lib.hid h1; have HB1 := Lib.hid hb1'
          clear h1 hb1'
          go_wp2
          exact ⟨⟨j + 1, r, by go_num, by omega, HJ2.out, HO2.out, .inr H1.out, HL.out.trans HB1.out⟩, by simp [intOf]; omega⟩
        · have g1 : (n : Int) < 6 := by omega
          obtain ⟨y, hy⟩ : ∃ y, y = h' % 64 := ⟨_, rfl⟩
          have g2 : bits .and .u64 (h' : Int) 63 = (y : Int) := by rw [and63 h' f3, hy]
          have hy2 : y % 2 ^ n = vb (sbits s) (6 * j) n := by
            rw [hy, ← hh]
            have e : (64 : Nat) = 2 ^ n * 2 ^ (6 - n) := by rw [← Nat.pow_add, show n + (6 - n) = 6 by omega]
            rw [e, Nat.mod_mul_right_mod]
          have hy3 : y < 64 := by omega
          have HY := Lib.hid hy; have HY2 := Lib.hid hy2
          clear hy hy2 hh
          go_wp2
          exact ⟨⟨k + 1, j, n, y, by omega, by go_num, rfl, rfl, hy3, by omega, by omega, HY2.out, HB.out, HL.out⟩, by simp [intOf]; omega⟩
    · obtain rfl : k = s.size := by omega
      have hall : ∀ j', j' = (8 * s.size + 5) / 6 → (⟨(en s j').toArray⟩ : ByteArray) = enc s := fun j' e => by rw [e]; rfl
      by_cases hn0 : n = 0
      · have hj : j = (8 * s.size + 5) / 6 := by omega
        have g1 : (n : Int) ≤ 0 := by omega
        have he := hall j hj
        have HE := Lib.hid he; have HJ := Lib.hid hj
        clear hall he hj hh hjn hn0
        go_wp2_with fail
        refine (Try.Builder_String_any W.heap.size W.heap.size (en s j) wr HB.out HL.out.size).mono ?_
        rintro e w1 ⟨rfl, hb1⟩
        rw [HE.out]
        go_wp2
        go_ret
        exact ⟨rfl, HL.out.trans hb1⟩
      · have hj : j + 1 = (8 * s.size + 5) / 6 := by omega
        obtain ⟨r, hr⟩ : ∃ r, n + r = 6 := ⟨6 - n, by omega⟩
        have hend := held_end s h j n r hr hjn hh
        have g1 : (0 : Int) < (n : Int) := by omega
        have g2 : (6 : Int) - (n : Int) = (r : Int) := by omega
        have g3 : r < 6 := by omega
        obtain ⟨q, hq⟩ : ∃ q, q = h * 2 ^ r := ⟨_, rfl⟩
        obtain ⟨c, hc⟩ : ∃ c, c = q % 64 := ⟨_, rfl⟩
        have hql : q < 18446744073709551616 := by
          have h2 : 2 ^ r ≤ 2 ^ 6 := Nat.pow_le_pow_right (by decide) (by omega)
          have h3 : h * 2 ^ r ≤ 64 * 2 ^ 6 := Nat.mul_le_mul (by omega) h2
          rw [hq]; omega
        have g4 : IntKind.u64.wrap ((h : Int) * 2 ^ r) = (q : Int) := by
          have e : (h : Int) * 2 ^ r = (q : Int) := by rw [hq]; simp
          rw [e, IntKind.wrap_u64, Int.emod_eq_of_lt] <;> omega
        have g5 : bits .and .u64 (q : Int) 63 = (c : Int) := by rw [and63 q hql, hc]
        have g6 : c < 64 := by omega
        have hc6 : c = vb (sbits s) (6 * j) 6 := by rw [hc, hq, hend]
        have he := hall (j + 1) hj
        have HE := Lib.hid he; have HJ := Lib.hid hj; have HC6 := Lib.hid hc6; have HQ := Lib.hid hq; have HC := Lib.hid hc
        have hj8 : j < 100000000000000 := by omega
        clear hall he hj hh hjn hn0 hr hend hc6 hq hc hql
        go_wp2_with fail
        rw [sign_at c g6]
        refine (writeByte_t W.heap.size W.heap.size (u8l (en s j)) _ wr HB.out (by simp only [u8l, List.length_map, en_length]; omega) HL.out.size).mono ?_
        rintro e w1 ⟨rfl, h1, hb1'⟩
        rw [u8l_snoc, HC6.out, ← en_snoc] at h1
        have H1 := Lib.hid h1; have HB1 := Lib.hid hb1'
        clear h1 hb1'
        go_wp2_with fail
        refine (Try.Builder_String_any W.heap.size W.heap.size (en s (j + 1)) w1 (.inr H1.out) (Nat.le_trans HL.out.size HB1.out.size)).mono ?_
        rintro e w2 ⟨rfl, hb2⟩
        rw [HE.out]
        go_wp2
        go_ret
        exact ⟨rfl, HL.out.trans (HB1.out.trans hb2)⟩
end Go.Proofs.Ytgpjpdeiogopfaa
